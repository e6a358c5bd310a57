/- Key, Challenge and Forge return what is specified: specielaw22.SignatureParts returns true. For every input; the tables of packages math/bits, prime and digest as the program's text lays them. The closed facts of the row of specielaw22.SignatureParts, one by one: all at once they outgrow the memory. SignatureParts: the walk. -/
import Derived.Test.YtdlcmpbpdbpanaaGreatDoorMB30
import Derived.Test.YtdlcmpbpdbpanaaGreatDoorMB32
import Derived.Test.YtdlcmpbpdbpanaaGreatDoorMB29
import Derived.Test.YtdlcmpbpdbpanaaGreatDoorRows
import Derived.Test.YtdlcmpbpdbpanaaGreatDoorMB31
import Derived.JoinedCond
import Derived.KernelRfl
import Derived.Lay
namespace Go.Proofs.YtdlcmpbpdbpanaaGreatDoor
open Go.RowKit Go.Sp
set_option maxHeartbeats 4000000
set_option maxRecDepth 20000

theorem SignatureParts_walk (P Q G x r y c s : Int) (v : Value) (m : List Int) (w : World) (hP : -9223372036854775808 ≤ P) (hQ : Q ≤ 9223372036854775807) (hT : Tab w) (hS : TabS w) (hv : SeqAt .u8 w v m) (hm : ∀ x ∈ m, 0 ≤ x ∧ x ≤ 255) :
    Calls Tryz.prog 6 #[grp P Q G, .int .i64 x, .int .i64 r, .int .i64 y, .int .i64 c, .int .i64 s, v] w fun e w' => e = .returned (.bool true) ∧ Up w w' := by
  have HT := hid hT
  have HV := hid hv
  have HM := hid hm
  have M0 := hid (fun w' (v' : Value) (h : BRowsAt w' v' [m]) => long22_any v' [m] w' h)
  have M1 := hid (fun w' (hU : Up w w') => sigKey_any P Q G x w' hP hQ (hT.up hU))
  have M2 := hid (fun w' (hU : Up w w') => sigChallenge_any P Q G r y v m w' hP hQ (hT.up hU) (hS.up hU) (hv.up hU) hm)
  have M3 := hid (fun w' (hU : Up w w') => sigForge_any P Q G y c s w' hP hQ (hT.up hU))
  have M4 := hid (fun w' (hU : Up w w') q0 q1 hl => r22Challenge_ok P Q G r y v m w' q0 q1 (hv.up hU) hl hm)
  obtain ⟨L, hL⟩ : ∃ L, ([m].any fun m => lng22 m.length) = L := ⟨_, rfl⟩
  rw [hL] at M0
  obtain ⟨E1, hE1⟩ : ∃ E, errE (gvB P Q G) (exB Q x) = E := ⟨_, rfl⟩
  obtain ⟨E2, hE2⟩ : ∃ E, sigE P Q G r y m.length = E := ⟨_, rfl⟩
  obtain ⟨E3, hE3⟩ : ∃ E, frgE P Q G y c s = E := ⟨_, rfl⟩
  obtain ⟨D, hD⟩ : ∃ D, sigC P Q G r y m = D := ⟨_, rfl⟩
  simp only [hE1] at M1
  simp only [hE2, hD] at M2
  simp only [hE3] at M3
  simp only [hD] at M4
  obtain ⟨X1, hX1⟩ : ∃ X, orZ E1 (pwi P G x) = X := ⟨_, rfl⟩
  obtain ⟨X2, hX2⟩ : ∃ X, orZ E2 D = X := ⟨_, rfl⟩
  obtain ⟨X3, hX3⟩ : ∃ X, orZ E3 (frgV P Q G y c s) = X := ⟨_, rfl⟩
  rw [hX1] at M1
  rw [hX2] at M2
  rw [hX3] at M3
  have HE1 := hid hE1
  have HE2 := hid hE2
  have HE3 := hid hE3
  have HX1 := hid hX1
  have HX2 := hid hX2
  have HX3 := hid hX3
  obtain ⟨va, vc, rfl, _, _⟩ := hv.shape
  obtain ⟨n, hn⟩ : ∃ n, m.length = n := ⟨_, rfl⟩
  rw [hn] at M2 M4 HE2 HV ⊢
  obtain ⟨o, ho⟩ : ∃ o, w.heap.size = o := ⟨_, rfl⟩
  have HO := hid ho
  clear hT hS hv hm hn ho hE1 hE2 hE3 hD hX1 hX2 hX3 hL
  go_enter Tryz.func6, Tryz.ntmps6
  go_wp2_with fail
  refine (awake22 _ (HT.out.up ((Up.refl w).alloc _))).mono ?_
  rintro e w1 ⟨rfl, hU1⟩
  have HA1 := hid ((nums_three (w := w) (t := 23) HO.out).up hU1)
  have HU1 := hid (((Up.refl w).alloc _).trans hU1)
  clear hU1
  rw [HO.out]
  obtain ⟨c0, c1, c2⟩ := HA1.out
  go_wp2_with fail
  refine (M0.out _ _ (brows_one (by go_simp) (HV.out.up (HU1.out.alloc _)) _)).mono ?_
  rintro e w2 ⟨rfl, hU2⟩
  have hU2 := ((Up.refl w1).alloc _).trans hU2
  have HA2 := hid (HA1.out.up hU2)
  have HU2 := hid (HU1.out.trans hU2)
  clear hU2 HA1 HU1 c0 c1 c2
  obtain ⟨c0, c1, c2⟩ := HA2.out
  cases L
  case true =>
    go_wp2
    go_ret
    exact ⟨rfl, HU2.out⟩
  go_wp2_with fail
  refine (M1.out _ (HU2.out)).mono ?_
  rintro e w3 ⟨rfl, hU3⟩
  have HA3 := hid (HA2.out.up hU3)
  have HU3 := hid (HU2.out.trans hU3)
  clear hU3 HA2 HU2 c0 c1 c2
  obtain ⟨c0, c1, c2⟩ := HA3.out
  go_wp2_with fail
  refine (M2.out _ (HU3.out)).mono ?_
  rintro e w4 ⟨rfl, hU4⟩
  have HA4 := hid (HA3.out.up hU4)
  have HU4 := hid (HU3.out.trans hU4)
  clear hU4 HA3 HU3 c0 c1 c2
  obtain ⟨c0, c1, c2⟩ := HA4.out
  go_wp2_with fail
  refine (M3.out _ (HU4.out)).mono ?_
  rintro e w5 ⟨rfl, hU5⟩
  have HA5 := hid (HA4.out.up hU5)
  have HU5 := hid (HU4.out.trans hU5)
  clear hU5 HA4 HU4 c0 c1 c2
  obtain ⟨c0, c1, c2⟩ := HA5.out
  go_wp2_with fail
  refine (rValid_any P Q G _ hP hQ).mono ?_
  rintro e w6 ⟨rfl, hU6⟩
  have HA6 := hid (HA5.out.up hU6)
  have HU6 := hid (HU5.out.trans hU6)
  clear hU6 HA5 HU5 c0 c1 c2
  obtain ⟨c0, c1, c2⟩ := HA6.out
  by_cases h : gvB P Q G = true
  case neg =>
    have h' : gvB P Q G = false := by simpa using h
    have e1 : E1 = 1 := by rw [← HE1.out, h']; rfl
    have x1 : X1 = 0 := by rw [← HX1.out, e1]; rfl
    have e2 : E2 = 1 := by rw [← HE2.out, sigE, chkI, h']; simp
    have x2 : X2 = 0 := by rw [← HX2.out, e2]; rfl
    have e3 : E3 = 1 := by rw [← HE3.out, frgE, h']; rfl
    have x3 : X3 = 0 := by rw [← HX3.out, e3]; rfl
    rw [h']
    clear h h'
    subst e1 x1 e2 x2 e3 x3
    go_wp2
    go_ret
    exact ⟨rfl, HU6.out⟩
  have Hg := hid h
  have g := gv_iff.1 h
  have g1 := g.P61
  have g2 := g.P4
  have g3 := g.Q3
  have g4 := g.QP
  have g5 := g.G2
  have g6 := g.GP
  rw [h]
  clear h g
  go_wp2_with fail
  refine (r22Scalar_any P Q G x _).mono ?_
  rintro e w7 ⟨rfl, hU7⟩
  have HA7 := hid (HA6.out.up hU7)
  have HU7 := hid (HU6.out.trans hU7)
  clear hU7 HA6 HU6 c0 c1 c2
  obtain ⟨c0, c1, c2⟩ := HA7.out
  by_cases h : exB Q x = true
  case neg =>
    have h' : exB Q x = false := by simpa using h
    have e1 : E1 = 2 := by rw [← HE1.out, Hg.out]; simp [errE, h']
    have x1 : X1 = 0 := by rw [← HX1.out, e1]; rfl
    rw [h']
    subst e1 x1
    clear h h' HE1 HX1
    go_wp2_with fail
    refine (rMember_any P Q G y _ g1 (by omega) hQ).mono ?_
    rintro e w8 ⟨rfl, hU8⟩
    have HA8 := hid (HA7.out.up hU8)
    have HU8 := hid (HU7.out.trans hU8)
    clear hU8 HA7 HU7 c0 c1 c2
    obtain ⟨c0, c1, c2⟩ := HA8.out
    by_cases h : elB P Q y = true
    case neg =>
      have h' : elB P Q y = false := by simpa using h
      have e3 : E3 = 2 := by rw [← HE3.out, frgE, Hg.out]; simp [errE, h']
      have x3 : X3 = 0 := by rw [← HX3.out, e3]; rfl
      rw [h']
      subst e3 x3
      have Hy := hid h'
      clear h h' HE3 HX3
      go_wp2_with fail
      refine (rMember_any P Q G y _ g1 (by omega) hQ).mono ?_
      rintro e w9 ⟨rfl, hU9⟩
      have HA9 := hid (HA8.out.up hU9)
      have HU9 := hid (HU8.out.trans hU9)
      clear hU9 HA8 HU8 c0 c1 c2
      obtain ⟨c0, c1, c2⟩ := HA9.out
      have e2 : E2 = 2 := by rw [← HE2.out, sigE, chkI, Hg.out]; simp [Hy.out]
      have x2 : X2 = 0 := by rw [← HX2.out, e2]; rfl
      subst e2 x2
      clear HE2 HX2
      rw [Hy.out]
      go_wp2
      go_ret
      exact ⟨rfl, HU9.out⟩
    have Hy := hid h
    rw [h]
    clear h
    go_wp2_with fail
    refine (r22Scalar_any P Q G c _).mono ?_
    rintro e w9 ⟨rfl, hU9⟩
    have HA9 := hid (HA8.out.up hU9)
    have HU9 := hid (HU8.out.trans hU9)
    clear hU9 HA8 HU8 c0 c1 c2
    obtain ⟨c0, c1, c2⟩ := HA9.out
    by_cases h : exB Q c = true
    case neg =>
      have h' : exB Q c = false := by simpa using h
      have e3 : E3 = 2 := by rw [← HE3.out, frgE, Hg.out]; simp [errE, h']
      have x3 : X3 = 0 := by rw [← HX3.out, e3]; rfl
      rw [h']
      subst e3 x3
      clear h h' HE3 HX3
      go_wp2_with fail
      refine (rMember_any P Q G y _ g1 (by omega) hQ).mono ?_
      rintro e w10 ⟨rfl, hU10⟩
      have HA10 := hid (HA9.out.up hU10)
      have HU10 := hid (HU9.out.trans hU10)
      clear hU10 HA9 HU9 c0 c1 c2
      obtain ⟨c0, c1, c2⟩ := HA10.out
      rw [Hy.out]
      go_wp2_with fail
      refine (rMember_any P Q G r _ g1 (by omega) hQ).mono ?_
      rintro e w11 ⟨rfl, hU11⟩
      have HA11 := hid (HA10.out.up hU11)
      have HU11 := hid (HU10.out.trans hU11)
      clear hU11 HA10 HU10 c0 c1 c2
      obtain ⟨c0, c1, c2⟩ := HA11.out
      by_cases h : elB P Q r = true
      case neg =>
        have h' : elB P Q r = false := by simpa using h
        have e2 : E2 = 2 := by rw [← HE2.out, sigE, chkI, Hg.out]; simp [h']
        have x2 : X2 = 0 := by rw [← HX2.out, e2]; rfl
        subst e2 x2
        clear HE2 HX2
        rw [h']
        clear h h'
        go_wp2
        go_ret
        exact ⟨rfl, HU11.out⟩
      have hk : chkI P Q G [r, y] = 0 := chkI_ok Hg.out (by simp [h, Hy.out])
      rw [h]
      clear h
      by_cases h : n > 16384
      case pos =>
        have dl : decide ((n : Int) > 16384) = true := by simp; omega
        have e2 : E2 = 5 := by rw [← HE2.out, sigE, if_pos hk, if_neg (by omega)]
        have x2 : X2 = 0 := by rw [← HX2.out, e2]; rfl
        subst e2 x2
        clear HE2 HX2
        clear h hk
        go_wp2
        go_ret
        exact ⟨rfl, HU11.out⟩
      have dl : decide ((n : Int) > 16384) = false := by simp; omega
      have e2 : E2 = 0 := by rw [← HE2.out, sigE, if_pos hk, if_pos (by omega)]
      have x2 : X2 = D := by rw [← HX2.out, e2]; rfl
      have N4 := hid (fun w' hU => M4.out w' hU (by omega) (by omega) (by omega))
      subst e2 x2
      have eD : (X2 == X2) = true := by simp
      clear h hk HE2 HX2
      go_wp2_with fail
      refine (N4.out _ (HU11.out)).mono ?_
      rintro e w12 ⟨rfl, hU12⟩
      have HA12 := hid (HA11.out.up hU12)
      have HU12 := hid (HU11.out.trans hU12)
      clear hU12 HA11 HU11 c0 c1 c2
      go_wp2
      go_ret
      exact ⟨rfl, HU12.out⟩
    have Hc := hid h
    rw [h]
    clear h
    go_wp2_with fail
    refine (r22Scalar_any P Q G s _).mono ?_
    rintro e w10 ⟨rfl, hU10⟩
    have HA10 := hid (HA9.out.up hU10)
    have HU10 := hid (HU9.out.trans hU10)
    clear hU10 HA9 HU9 c0 c1 c2
    obtain ⟨c0, c1, c2⟩ := HA10.out
    by_cases h : exB Q s = true
    case neg =>
      have h' : exB Q s = false := by simpa using h
      have e3 : E3 = 2 := by rw [← HE3.out, frgE, Hg.out]; simp [errE, h']
      have x3 : X3 = 0 := by rw [← HX3.out, e3]; rfl
      rw [h']
      subst e3 x3
      clear h h' HE3 HX3
      go_wp2_with fail
      refine (rMember_any P Q G y _ g1 (by omega) hQ).mono ?_
      rintro e w11 ⟨rfl, hU11⟩
      have HA11 := hid (HA10.out.up hU11)
      have HU11 := hid (HU10.out.trans hU11)
      clear hU11 HA10 HU10 c0 c1 c2
      obtain ⟨c0, c1, c2⟩ := HA11.out
      rw [Hy.out]
      go_wp2_with fail
      refine (rMember_any P Q G r _ g1 (by omega) hQ).mono ?_
      rintro e w12 ⟨rfl, hU12⟩
      have HA12 := hid (HA11.out.up hU12)
      have HU12 := hid (HU11.out.trans hU12)
      clear hU12 HA11 HU11 c0 c1 c2
      obtain ⟨c0, c1, c2⟩ := HA12.out
      by_cases h : elB P Q r = true
      case neg =>
        have h' : elB P Q r = false := by simpa using h
        have e2 : E2 = 2 := by rw [← HE2.out, sigE, chkI, Hg.out]; simp [h']
        have x2 : X2 = 0 := by rw [← HX2.out, e2]; rfl
        subst e2 x2
        clear HE2 HX2
        rw [h']
        clear h h'
        go_wp2
        go_ret
        exact ⟨rfl, HU12.out⟩
      have hk : chkI P Q G [r, y] = 0 := chkI_ok Hg.out (by simp [h, Hy.out])
      rw [h]
      clear h
      by_cases h : n > 16384
      case pos =>
        have dl : decide ((n : Int) > 16384) = true := by simp; omega
        have e2 : E2 = 5 := by rw [← HE2.out, sigE, if_pos hk, if_neg (by omega)]
        have x2 : X2 = 0 := by rw [← HX2.out, e2]; rfl
        subst e2 x2
        clear HE2 HX2
        clear h hk
        go_wp2
        go_ret
        exact ⟨rfl, HU12.out⟩
      have dl : decide ((n : Int) > 16384) = false := by simp; omega
      have e2 : E2 = 0 := by rw [← HE2.out, sigE, if_pos hk, if_pos (by omega)]
      have x2 : X2 = D := by rw [← HX2.out, e2]; rfl
      have N4 := hid (fun w' hU => M4.out w' hU (by omega) (by omega) (by omega))
      subst e2 x2
      have eD : (X2 == X2) = true := by simp
      clear h hk HE2 HX2
      go_wp2_with fail
      refine (N4.out _ (HU12.out)).mono ?_
      rintro e w13 ⟨rfl, hU13⟩
      have HA13 := hid (HA12.out.up hU13)
      have HU13 := hid (HU12.out.trans hU13)
      clear hU13 HA12 HU12 c0 c1 c2
      go_wp2
      go_ret
      exact ⟨rfl, HU13.out⟩
    have Hs := hid h
    rw [h]
    clear h
    have e3 : E3 = 0 := by rw [← HE3.out, frgE, Hg.out]; simp [errE, Hy.out, Hc.out, Hs.out]
    have x3 : X3 = frgV P Q G y c s := by rw [← HX3.out, e3]; rfl
    have R3 := hid (fun w' => r22Commitment_ok P Q G y c s w' Hg.out Hy.out Hc.out Hs.out)
    subst e3
    generalize frgV P Q G y c s = Z at *
    subst x3
    have eZ : (X3 != X3) = false := by simp
    clear HE3 HX3
    go_wp2_with fail
    refine (R3.out _).mono ?_
    rintro e w11 ⟨rfl, hU11⟩
    have HA11 := hid (HA10.out.up hU11)
    have HU11 := hid (HU10.out.trans hU11)
    clear hU11 HA10 HU10 c0 c1 c2
    obtain ⟨c0, c1, c2⟩ := HA11.out
    go_wp2_with fail
    refine (rMember_any P Q G y _ g1 (by omega) hQ).mono ?_
    rintro e w12 ⟨rfl, hU12⟩
    have HA12 := hid (HA11.out.up hU12)
    have HU12 := hid (HU11.out.trans hU12)
    clear hU12 HA11 HU11 c0 c1 c2
    obtain ⟨c0, c1, c2⟩ := HA12.out
    rw [Hy.out]
    go_wp2_with fail
    refine (rMember_any P Q G r _ g1 (by omega) hQ).mono ?_
    rintro e w13 ⟨rfl, hU13⟩
    have HA13 := hid (HA12.out.up hU13)
    have HU13 := hid (HU12.out.trans hU13)
    clear hU13 HA12 HU12 c0 c1 c2
    obtain ⟨c0, c1, c2⟩ := HA13.out
    by_cases h : elB P Q r = true
    case neg =>
      have h' : elB P Q r = false := by simpa using h
      have e2 : E2 = 2 := by rw [← HE2.out, sigE, chkI, Hg.out]; simp [h']
      have x2 : X2 = 0 := by rw [← HX2.out, e2]; rfl
      subst e2 x2
      clear HE2 HX2
      rw [h']
      clear h h'
      go_wp2
      go_ret
      exact ⟨rfl, HU13.out⟩
    have hk : chkI P Q G [r, y] = 0 := chkI_ok Hg.out (by simp [h, Hy.out])
    rw [h]
    clear h
    by_cases h : n > 16384
    case pos =>
      have dl : decide ((n : Int) > 16384) = true := by simp; omega
      have e2 : E2 = 5 := by rw [← HE2.out, sigE, if_pos hk, if_neg (by omega)]
      have x2 : X2 = 0 := by rw [← HX2.out, e2]; rfl
      subst e2 x2
      clear HE2 HX2
      clear h hk
      go_wp2
      go_ret
      exact ⟨rfl, HU13.out⟩
    have dl : decide ((n : Int) > 16384) = false := by simp; omega
    have e2 : E2 = 0 := by rw [← HE2.out, sigE, if_pos hk, if_pos (by omega)]
    have x2 : X2 = D := by rw [← HX2.out, e2]; rfl
    have N4 := hid (fun w' hU => M4.out w' hU (by omega) (by omega) (by omega))
    subst e2 x2
    have eD : (X2 == X2) = true := by simp
    clear h hk HE2 HX2
    go_wp2_with fail
    refine (N4.out _ (HU13.out)).mono ?_
    rintro e w14 ⟨rfl, hU14⟩
    have HA14 := hid (HA13.out.up hU14)
    have HU14 := hid (HU13.out.trans hU14)
    clear hU14 HA13 HU13 c0 c1 c2
    go_wp2
    go_ret
    exact ⟨rfl, HU14.out⟩
  have e1 : E1 = 0 := by rw [← HE1.out, Hg.out]; simp [errE, h]
  have x1 : X1 = pwi P G x := by rw [← HX1.out, e1]; rfl
  have R0 := hid (fun w' => rgPower_sc P Q G G x w' (by omega) g6 (exB_iff.1 h).1 (exB_iff.1 h).2 g1 (by omega))
  rw [h]
  subst e1
  generalize pwi P G x = Y at *
  subst x1
  have eY : (X1 != X1) = false := by simp
  clear h HE1 HX1
  go_wp2_with fail
  refine (R0.out _).mono ?_
  rintro e w8 ⟨rfl, hU8⟩
  have HA8 := hid (HA7.out.up hU8)
  have HU8 := hid (HU7.out.trans hU8)
  clear hU8 HA7 HU7 c0 c1 c2
  obtain ⟨c0, c1, c2⟩ := HA8.out
  go_wp2_with fail
  refine (rMember_any P Q G y _ g1 (by omega) hQ).mono ?_
  rintro e w9 ⟨rfl, hU9⟩
  have HA9 := hid (HA8.out.up hU9)
  have HU9 := hid (HU8.out.trans hU9)
  clear hU9 HA8 HU8 c0 c1 c2
  obtain ⟨c0, c1, c2⟩ := HA9.out
  by_cases h : elB P Q y = true
  case neg =>
    have h' : elB P Q y = false := by simpa using h
    have e3 : E3 = 2 := by rw [← HE3.out, frgE, Hg.out]; simp [errE, h']
    have x3 : X3 = 0 := by rw [← HX3.out, e3]; rfl
    rw [h']
    subst e3 x3
    have Hy := hid h'
    clear h h' HE3 HX3
    go_wp2_with fail
    refine (rMember_any P Q G y _ g1 (by omega) hQ).mono ?_
    rintro e w10 ⟨rfl, hU10⟩
    have HA10 := hid (HA9.out.up hU10)
    have HU10 := hid (HU9.out.trans hU10)
    clear hU10 HA9 HU9 c0 c1 c2
    obtain ⟨c0, c1, c2⟩ := HA10.out
    have e2 : E2 = 2 := by rw [← HE2.out, sigE, chkI, Hg.out]; simp [Hy.out]
    have x2 : X2 = 0 := by rw [← HX2.out, e2]; rfl
    subst e2 x2
    clear HE2 HX2
    rw [Hy.out]
    go_wp2
    go_ret
    exact ⟨rfl, HU10.out⟩
  have Hy := hid h
  rw [h]
  clear h
  go_wp2_with fail
  refine (r22Scalar_any P Q G c _).mono ?_
  rintro e w10 ⟨rfl, hU10⟩
  have HA10 := hid (HA9.out.up hU10)
  have HU10 := hid (HU9.out.trans hU10)
  clear hU10 HA9 HU9 c0 c1 c2
  obtain ⟨c0, c1, c2⟩ := HA10.out
  by_cases h : exB Q c = true
  case neg =>
    have h' : exB Q c = false := by simpa using h
    have e3 : E3 = 2 := by rw [← HE3.out, frgE, Hg.out]; simp [errE, h']
    have x3 : X3 = 0 := by rw [← HX3.out, e3]; rfl
    rw [h']
    subst e3 x3
    clear h h' HE3 HX3
    go_wp2_with fail
    refine (rMember_any P Q G y _ g1 (by omega) hQ).mono ?_
    rintro e w11 ⟨rfl, hU11⟩
    have HA11 := hid (HA10.out.up hU11)
    have HU11 := hid (HU10.out.trans hU11)
    clear hU11 HA10 HU10 c0 c1 c2
    obtain ⟨c0, c1, c2⟩ := HA11.out
    rw [Hy.out]
    go_wp2_with fail
    refine (rMember_any P Q G r _ g1 (by omega) hQ).mono ?_
    rintro e w12 ⟨rfl, hU12⟩
    have HA12 := hid (HA11.out.up hU12)
    have HU12 := hid (HU11.out.trans hU12)
    clear hU12 HA11 HU11 c0 c1 c2
    obtain ⟨c0, c1, c2⟩ := HA12.out
    by_cases h : elB P Q r = true
    case neg =>
      have h' : elB P Q r = false := by simpa using h
      have e2 : E2 = 2 := by rw [← HE2.out, sigE, chkI, Hg.out]; simp [h']
      have x2 : X2 = 0 := by rw [← HX2.out, e2]; rfl
      subst e2 x2
      clear HE2 HX2
      rw [h']
      clear h h'
      go_wp2
      go_ret
      exact ⟨rfl, HU12.out⟩
    have hk : chkI P Q G [r, y] = 0 := chkI_ok Hg.out (by simp [h, Hy.out])
    rw [h]
    clear h
    by_cases h : n > 16384
    case pos =>
      have dl : decide ((n : Int) > 16384) = true := by simp; omega
      have e2 : E2 = 5 := by rw [← HE2.out, sigE, if_pos hk, if_neg (by omega)]
      have x2 : X2 = 0 := by rw [← HX2.out, e2]; rfl
      subst e2 x2
      clear HE2 HX2
      clear h hk
      go_wp2
      go_ret
      exact ⟨rfl, HU12.out⟩
    have dl : decide ((n : Int) > 16384) = false := by simp; omega
    have e2 : E2 = 0 := by rw [← HE2.out, sigE, if_pos hk, if_pos (by omega)]
    have x2 : X2 = D := by rw [← HX2.out, e2]; rfl
    have N4 := hid (fun w' hU => M4.out w' hU (by omega) (by omega) (by omega))
    subst e2 x2
    have eD : (X2 == X2) = true := by simp
    clear h hk HE2 HX2
    go_wp2_with fail
    refine (N4.out _ (HU12.out)).mono ?_
    rintro e w13 ⟨rfl, hU13⟩
    have HA13 := hid (HA12.out.up hU13)
    have HU13 := hid (HU12.out.trans hU13)
    clear hU13 HA12 HU12 c0 c1 c2
    go_wp2
    go_ret
    exact ⟨rfl, HU13.out⟩
  have Hc := hid h
  rw [h]
  clear h
  go_wp2_with fail
  refine (r22Scalar_any P Q G s _).mono ?_
  rintro e w11 ⟨rfl, hU11⟩
  have HA11 := hid (HA10.out.up hU11)
  have HU11 := hid (HU10.out.trans hU11)
  clear hU11 HA10 HU10 c0 c1 c2
  obtain ⟨c0, c1, c2⟩ := HA11.out
  by_cases h : exB Q s = true
  case neg =>
    have h' : exB Q s = false := by simpa using h
    have e3 : E3 = 2 := by rw [← HE3.out, frgE, Hg.out]; simp [errE, h']
    have x3 : X3 = 0 := by rw [← HX3.out, e3]; rfl
    rw [h']
    subst e3 x3
    clear h h' HE3 HX3
    go_wp2_with fail
    refine (rMember_any P Q G y _ g1 (by omega) hQ).mono ?_
    rintro e w12 ⟨rfl, hU12⟩
    have HA12 := hid (HA11.out.up hU12)
    have HU12 := hid (HU11.out.trans hU12)
    clear hU12 HA11 HU11 c0 c1 c2
    obtain ⟨c0, c1, c2⟩ := HA12.out
    rw [Hy.out]
    go_wp2_with fail
    refine (rMember_any P Q G r _ g1 (by omega) hQ).mono ?_
    rintro e w13 ⟨rfl, hU13⟩
    have HA13 := hid (HA12.out.up hU13)
    have HU13 := hid (HU12.out.trans hU13)
    clear hU13 HA12 HU12 c0 c1 c2
    obtain ⟨c0, c1, c2⟩ := HA13.out
    by_cases h : elB P Q r = true
    case neg =>
      have h' : elB P Q r = false := by simpa using h
      have e2 : E2 = 2 := by rw [← HE2.out, sigE, chkI, Hg.out]; simp [h']
      have x2 : X2 = 0 := by rw [← HX2.out, e2]; rfl
      subst e2 x2
      clear HE2 HX2
      rw [h']
      clear h h'
      go_wp2
      go_ret
      exact ⟨rfl, HU13.out⟩
    have hk : chkI P Q G [r, y] = 0 := chkI_ok Hg.out (by simp [h, Hy.out])
    rw [h]
    clear h
    by_cases h : n > 16384
    case pos =>
      have dl : decide ((n : Int) > 16384) = true := by simp; omega
      have e2 : E2 = 5 := by rw [← HE2.out, sigE, if_pos hk, if_neg (by omega)]
      have x2 : X2 = 0 := by rw [← HX2.out, e2]; rfl
      subst e2 x2
      clear HE2 HX2
      clear h hk
      go_wp2
      go_ret
      exact ⟨rfl, HU13.out⟩
    have dl : decide ((n : Int) > 16384) = false := by simp; omega
    have e2 : E2 = 0 := by rw [← HE2.out, sigE, if_pos hk, if_pos (by omega)]
    have x2 : X2 = D := by rw [← HX2.out, e2]; rfl
    have N4 := hid (fun w' hU => M4.out w' hU (by omega) (by omega) (by omega))
    subst e2 x2
    have eD : (X2 == X2) = true := by simp
    clear h hk HE2 HX2
    go_wp2_with fail
    refine (N4.out _ (HU13.out)).mono ?_
    rintro e w14 ⟨rfl, hU14⟩
    have HA14 := hid (HA13.out.up hU14)
    have HU14 := hid (HU13.out.trans hU14)
    clear hU14 HA13 HU13 c0 c1 c2
    go_wp2
    go_ret
    exact ⟨rfl, HU14.out⟩
  have Hs := hid h
  rw [h]
  clear h
  have e3 : E3 = 0 := by rw [← HE3.out, frgE, Hg.out]; simp [errE, Hy.out, Hc.out, Hs.out]
  have x3 : X3 = frgV P Q G y c s := by rw [← HX3.out, e3]; rfl
  have R3 := hid (fun w' => r22Commitment_ok P Q G y c s w' Hg.out Hy.out Hc.out Hs.out)
  subst e3
  generalize frgV P Q G y c s = Z at *
  subst x3
  have eZ : (X3 != X3) = false := by simp
  clear HE3 HX3
  go_wp2_with fail
  refine (R3.out _).mono ?_
  rintro e w12 ⟨rfl, hU12⟩
  have HA12 := hid (HA11.out.up hU12)
  have HU12 := hid (HU11.out.trans hU12)
  clear hU12 HA11 HU11 c0 c1 c2
  obtain ⟨c0, c1, c2⟩ := HA12.out
  go_wp2_with fail
  refine (rMember_any P Q G y _ g1 (by omega) hQ).mono ?_
  rintro e w13 ⟨rfl, hU13⟩
  have HA13 := hid (HA12.out.up hU13)
  have HU13 := hid (HU12.out.trans hU13)
  clear hU13 HA12 HU12 c0 c1 c2
  obtain ⟨c0, c1, c2⟩ := HA13.out
  rw [Hy.out]
  go_wp2_with fail
  refine (rMember_any P Q G r _ g1 (by omega) hQ).mono ?_
  rintro e w14 ⟨rfl, hU14⟩
  have HA14 := hid (HA13.out.up hU14)
  have HU14 := hid (HU13.out.trans hU14)
  clear hU14 HA13 HU13 c0 c1 c2
  obtain ⟨c0, c1, c2⟩ := HA14.out
  by_cases h : elB P Q r = true
  case neg =>
    have h' : elB P Q r = false := by simpa using h
    have e2 : E2 = 2 := by rw [← HE2.out, sigE, chkI, Hg.out]; simp [h']
    have x2 : X2 = 0 := by rw [← HX2.out, e2]; rfl
    subst e2 x2
    clear HE2 HX2
    rw [h']
    clear h h'
    go_wp2
    go_ret
    exact ⟨rfl, HU14.out⟩
  have hk : chkI P Q G [r, y] = 0 := chkI_ok Hg.out (by simp [h, Hy.out])
  rw [h]
  clear h
  by_cases h : n > 16384
  case pos =>
    have dl : decide ((n : Int) > 16384) = true := by simp; omega
    have e2 : E2 = 5 := by rw [← HE2.out, sigE, if_pos hk, if_neg (by omega)]
    have x2 : X2 = 0 := by rw [← HX2.out, e2]; rfl
    subst e2 x2
    clear HE2 HX2
    clear h hk
    go_wp2
    go_ret
    exact ⟨rfl, HU14.out⟩
  have dl : decide ((n : Int) > 16384) = false := by simp; omega
  have e2 : E2 = 0 := by rw [← HE2.out, sigE, if_pos hk, if_pos (by omega)]
  have x2 : X2 = D := by rw [← HX2.out, e2]; rfl
  have N4 := hid (fun w' hU => M4.out w' hU (by omega) (by omega) (by omega))
  subst e2 x2
  have eD : (X2 == X2) = true := by simp
  clear h hk HE2 HX2
  go_wp2_with fail
  refine (N4.out _ (HU14.out)).mono ?_
  rintro e w15 ⟨rfl, hU15⟩
  have HA15 := hid (HA14.out.up hU15)
  have HU15 := hid (HU14.out.trans hU15)
  clear hU15 HA14 HU14 c0 c1 c2
  go_wp2
  go_ret
  exact ⟨rfl, HU15.out⟩
end Go.Proofs.YtdlcmpbpdbpanaaGreatDoor
namespace Go.Proofs.YtdlcmpbpdbpanaaGreatDoor.lawSignatureParts
open Go.Proofs.YtdlcmpbpdbpanaaGreatDoor
theorem fact1 : (Rows.signaturePartsRow.wf (OpenSpec.ofChange (OpenSpec.ofChange Rows.signaturePartsSpec).bare) : Bool) = true := by kernel_rfl
theorem fact2 : (laidOutB Tryz.pinned.checked.prog : Bool) = true := by kernel_rfl
theorem fact3 : (mapsRowed Tryz.pinned.checked.prog : Bool) = true := by kernel_rfl
theorem fact4 : (Tryz.f6.params.all (Tryz.pinned.checked.prog.readableRec ·) : Bool) = true := by kernel_rfl
theorem fact5 : (namedTie Tryz.pinned.checked.prog Rows.signaturePartsRow.named (OpenSpec.ofChange Rows.signaturePartsSpec).bare.vars : Bool) = true := by kernel_rfl
theorem fact6 : ((Rows.signaturePartsRow.stops == []) : Bool) = true := by kernel_rfl
theorem fact7 : ((Tryz.pinned.checked.prog.stops == []) : Bool) = true := by kernel_rfl
theorem fact8 : ((Rows.signaturePartsRow.knobs == []) : Bool) = true := by kernel_rfl
theorem fact9 : ((Tryz.pinned.checked.prog.stopKnobs == []) : Bool) = true := by kernel_rfl
theorem fact10 : ((Rows.signaturePartsRow.inPlace == Tryz.pinned.checked.prog.inPlace 6) : Bool) = true := by kernel_rfl
theorem fact11 : ((Rows.signaturePartsRow.unfollowed == Tryz.pinned.checked.prog.unfollowed 6) : Bool) = true := by kernel_rfl
theorem fact12 : ((Rows.signaturePartsRow.recurses == Tryz.pinned.checked.prog.recurses 6) : Bool) = true := by kernel_rfl
theorem fact13 : ((Rows.signaturePartsRow.named == Tryz.pinned.checked.prog.varsNamed 6) : Bool) = true := by kernel_rfl
theorem fact14 : ((Rows.signaturePartsRow.maps == (Tryz.f6.params.toList ++ (OpenSpec.ofChange Rows.signaturePartsSpec).bare.plain.varTypes Tryz.pinned.checked.prog).any (Tryz.pinned.checked.prog.mapsRec ·)) : Bool) = true := by kernel_rfl
theorem fact15 : ((Rows.signaturePartsRow.ifaces == (Tryz.f6.params.toList ++ (OpenSpec.ofChange Rows.signaturePartsSpec).bare.plain.varTypes Tryz.pinned.checked.prog).any (Tryz.pinned.checked.prog.ifacesRec ·)) : Bool) = true := by kernel_rfl
theorem fact16 : ((Rows.signaturePartsRow.mapsOut == Tryz.pinned.checked.prog.mapsAmong Tryz.f6.resultTypes.toList) : Bool) = true := by kernel_rfl
theorem fact17 : ((Rows.signaturePartsRow.loops == (Tryz.f6.params.toList ++ (OpenSpec.ofChange Rows.signaturePartsSpec).bare.plain.varTypes Tryz.pinned.checked.prog).any (Tryz.pinned.checked.prog.loopsFrom ·)) : Bool) = true := by kernel_rfl
theorem fact18 : ((Rows.signaturePartsRow.wideKeys == (Tryz.f6.params.toList ++ (OpenSpec.ofChange Rows.signaturePartsSpec).bare.plain.varTypes Tryz.pinned.checked.prog ++ Tryz.f6.resultTypes.toList).any (Tryz.pinned.checked.prog.wideKeysFrom ·)) : Bool) = true := by kernel_rfl
theorem fact19 : ((OpenSpec.ofChange Rows.signaturePartsSpec).bare.vars.all (Tryz.pinned.checked.prog.varReadable ·) : Bool) = true := by kernel_rfl
theorem fact20 : (Tryz.f6.resultTypes.all (fun t => Tryz.pinned.checked.prog.readableRec t && decide (t < Tryz.pinned.checked.prog.types.size)) : Bool) = true := by kernel_rfl
theorem fact21 : ((Rows.signaturePartsRow.ifacesOut == Tryz.f6.resultTypes.toList.any (Tryz.pinned.checked.prog.ifacesRec ·)) : Bool) = true := by kernel_rfl
theorem fact22 : ((Rows.signaturePartsRow.loopsOut == Tryz.f6.resultTypes.toList.any (Tryz.pinned.checked.prog.loopsFrom ·)) : Bool) = true := by kernel_rfl
theorem fact23 : ((Rows.signaturePartsRow.plainKeys == Tryz.pinned.checked.prog.plainKeys) : Bool) = true := by kernel_rfl
theorem fact24 : (Rows.signaturePartsRow.shortTexts.isNone : Bool) = true := by kernel_rfl
theorem fact25 : (Tryz.pinned.checked.prog.stopsHeard : Bool) = true := by kernel_rfl
theorem fact26 : (Tryz.pinned.checked.prog.mayEnter : Bool) = true := by kernel_rfl
theorem fact27 : ((Rows.signaturePartsRow.lifted == Tryz.pinned.checked.prog.liftsFinal) : Bool) = true := by kernel_rfl
theorem fact28 : ((Tryz.pinned.checked.prog.make == some Rows.signaturePartsRow.make) : Bool) = true := by kernel_rfl
theorem fact29 : ((Rows.signaturePartsRow.kinds == (if Rows.signaturePartsRow.domain.isEmpty then [] else Tryz.f6.params.toList.map fun t => match Tryz.pinned.checked.prog.underlying t with | some (.int k) => some k | _ => none)) : Bool) = true := by kernel_rfl
theorem fact30 : ((Rows.signaturePartsRow.pinned == Rows.signaturePartsRow.pinnedBy) : Bool) = true := by kernel_rfl
theorem fact31 : ((Rows.signaturePartsRow.veiled == (Tryz.f6.params.toList ++ (OpenSpec.ofChange Rows.signaturePartsSpec).bare.plain.varTypes Tryz.pinned.checked.prog ++ Tryz.f6.resultTypes.toList).any (Tryz.pinned.checked.prog.veiledRec ·)) : Bool) = true := by kernel_rfl
theorem fact32 : (Rows.signaturePartsRow.veiledFits Tryz.pinned.checked.prog Tryz.f6.params.toList (Tryz.f6.params.toList ++ (OpenSpec.ofChange Rows.signaturePartsSpec).bare.plain.varTypes Tryz.pinned.checked.prog ++ Tryz.f6.resultTypes.toList) : Bool) = true := by kernel_rfl
theorem andB {a b : Bool} (h : a = true) (k : b = true) : (a && b) = true := by rw [h, k]; rfl
set_option maxRecDepth 100000 in
theorem closed : joinedFacts Tryz.pinned.checked.prog 6 Tryz.f6 (OpenSpec.ofChange Rows.signaturePartsSpec).bare Rows.signaturePartsRow = true := by
  unfold joinedFacts
  exact (andB (andB (andB (andB (andB (andB (andB (andB (andB (andB (andB (andB (andB (andB (andB (andB (andB (andB (andB (andB (andB (andB (andB (andB (andB (andB (andB (andB (andB (andB (andB fact1 fact2) fact3) fact4) fact5) fact6) fact7) fact8) fact9) fact10) fact11) fact12) fact13) fact14) fact15) fact16) fact17) fact18) fact19) fact20) fact21) fact22) fact23) fact24) fact25) fact26) fact27) fact28) fact29) fact30) fact31) fact32)
end Go.Proofs.YtdlcmpbpdbpanaaGreatDoor.lawSignatureParts
namespace Go.Proofs.YtdlcmpbpdbpanaaGreatDoor.lawSignatureParts
open Go.Proofs.YtdlcmpbpdbpanaaGreatDoor Go.ChangeShapes Go.WideShapes Go.ChangeAt Go.RowKit Go.Sp

set_option maxRecDepth 100000 in
theorem contract (H : Type) (enc : TypeId × Value → H) (W : World) (base : Nat) (args : Array Value) (ds gs : List (DataW H)) (before : List MemPlace)
    (hval : ∀ (j : Nat) t v, Tryz.f6.params[j]? = some t → args[j]? = some v → Value.okWide Tryz.prog W .any base t v)
    (hW : DataW.Whole enc Tryz.prog Tryz.f6.params.toList Rows.signaturePartsSpec.vars false W args.toList ds gs before) (hL : laidMetH Tryz.prog Rows.signaturePartsRow.laid W) :
    Calls Tryz.prog 6 args W fun e W' => ∃ v, e = .returned v ∧ Rows.signaturePartsSpec.post enc Tryz.prog Tryz.f6 false true false false W args v W' := by
  have hT := tab_of_four hL
  have hS := tabS_of_four hL
  have hW' := hW
  obtain ⟨p, q, hA0, hV, rfl, hfz, hnd⟩ := hW
  have hA : DataW.TrodAll enc Tryz.prog W 0 (fun _ => true) true Tryz.f6.params.toList args.toList ds p := hA0
  rw [Tryz.params6] at hA hval
  obtain ⟨v0, vs0, d0, ds0, p0, q0, hargs, rfl, rfl, h0, r0⟩ := trodAll_cons hA
  obtain ⟨v1, vs1, d1, ds1, p1, q1, rfl, rfl, rfl, h1, r1⟩ := trodAll_cons r0
  obtain ⟨v2, vs2, d2, ds2, p2, q2, rfl, rfl, rfl, h2, r2⟩ := trodAll_cons r1
  obtain ⟨v3, vs3, d3, ds3, p3, q3, rfl, rfl, rfl, h3, r3⟩ := trodAll_cons r2
  obtain ⟨v4, vs4, d4, ds4, p4, q4, rfl, rfl, rfl, h4, r4⟩ := trodAll_cons r3
  obtain ⟨v5, vs5, d5, ds5, p5, q5, rfl, rfl, rfl, h5, r5⟩ := trodAll_cons r4
  obtain ⟨v6, vs6, d6, ds6, p6, q6, rfl, rfl, rfl, h6, r6⟩ := trodAll_cons r5
  obtain ⟨rfl, rfl, rfl⟩ := trodAll_nil r6
  obtain rfl : args = #[v0, v1, v2, v3, v4, v5, v6] := by cases args; simp_all
  obtain ⟨rfl, rfl⟩ := trodVars_none hV
  obtain ⟨P0, Q0, G0, rfl, bP0, bQ0, bG0⟩ := open_grp (hval 0 23 v0 rfl rfl) h0
  obtain ⟨x1, rfl, bx1, by1⟩ := open_i64 (hval 1 3 v1 rfl rfl) h1
  obtain ⟨x2, rfl, bx2, by2⟩ := open_i64 (hval 2 3 v2 rfl rfl) h2
  obtain ⟨x3, rfl, bx3, by3⟩ := open_i64 (hval 3 3 v3 rfl rfl) h3
  obtain ⟨x4, rfl, bx4, by4⟩ := open_i64 (hval 4 3 v4 rfl rfl) h4
  obtain ⟨x5, rfl, bx5, by5⟩ := open_i64 (hval 5 3 v5 rfl rfl) h5
  obtain ⟨xs6, hs6, bs6⟩ := open_bytes (hval 6 51 v6 rfl rfl) h6
  refine (SignatureParts_walk P0 Q0 G0 x1 x2 x3 x4 x5 v6 xs6 W bP0.1 bQ0.2 hT hS hs6 bs6).mono fun e W' ⟨he, hU⟩ => ?_
  exact ⟨_, he, law_shut Tryz.underlying4 (by kernel_rfl) rfl rfl laidOut (by kernel_rfl) hW' hU⟩

theorem laid_met (os : Os) : laidMet Tryz.prog Rows.signaturePartsRow.laid ((World.laidAll Tryz.prog os laidFour).forCall (fun _ _ => 0) ⟨#[], #[.agg #[.int .i64 0, .int .i64 0, .int .i64 0], .int .i64 0, .int .i64 0, .int .i64 0, .int .i64 0, .int .i64 0, .slice none 0 0], []⟩).memory :=
  laidMet_laidAll _ (by kernel_rfl) (by kernel_rfl)
theorem reads (os : Os) {H : Type} (enc : TypeId × Value → H) : ∃ places, DataW.whole enc Tryz.prog ((World.laidAll Tryz.prog os laidFour).forCall (fun _ _ => 0) ⟨#[], #[.agg #[.int .i64 0, .int .i64 0, .int .i64 0], .int .i64 0, .int .i64 0, .int .i64 0, .int .i64 0, .int .i64 0, .slice none 0 0], []⟩).memory Tryz.f6.params.toList Rows.signaturePartsSpec.vars false (#[.agg #[.int .i64 0, .int .i64 0, .int .i64 0], .int .i64 0, .int .i64 0, .int .i64 0, .int .i64 0, .int .i64 0, .slice none 0 0] : Array Value).toList 8 = some ([.agg [.lit (.int .i64 0), .lit (.int .i64 0), .lit (.int .i64 0)], .lit (.int .i64 0), .lit (.int .i64 0), .lit (.int .i64 0), .lit (.int .i64 0), .lit (.int .i64 0), .nil], [], places) :=
  ⟨[], by kernel_rfl⟩

set_option maxRecDepth 100000 in
theorem lifted (os : Os) (started : os.Started) (H : Type) (enc : TypeId × Value → H) (F : Stop.Interp) :
    ReturnsInHanded {} Tryz.checked os 6 .any ((OpenSpec.ofChange Rows.signaturePartsSpec).preRow enc Tryz.prog Tryz.f6 Rows.signaturePartsRow.domain false Rows.signaturePartsRow.laid) (((OpenSpec.ofChange Rows.signaturePartsSpec).at F).post enc Tryz.prog Tryz.f6 false true false false) := by
  obtain ⟨places, hx⟩ := reads os enc
  refine returnsInHanded_of_row (C := Tryz.checked) (s := OpenSpec.ofChange Rows.signaturePartsSpec) own started (by kernel_rfl) Tryz.func6
    (witness_row_at (enc := enc) (C := Tryz.checked) false (World.laidAll Tryz.prog os laidFour) #[.agg #[.int .i64 0, .int .i64 0, .int .i64 0], .int .i64 0, .int .i64 0, .int .i64 0, .int .i64 0, .int .i64 0, .slice none 0 0] (World.laidAll_os _ _ _) (by kernel_rfl) (by kernel_rfl) (by kernel_rfl)
      (OpenSpec.preRow_of_cond 8 hx (by kernel_rfl) (fun k hk => by cases hk) (by kernel_rfl) (laid_met os))) ?_
  intro W base args ds gs before hval hW _ _ _ hL _ _
  exact contract H enc W base args ds gs before hval hW hL

theorem said : Rows.SignaturePartsSaid :=
  OpenClaim.holds_of_cond 6 Tryz.f6 rfl rfl rfl rfl rfl rfl rfl ⟨rfl, rfl, rfl, rfl, rfl⟩ rfl rfl rfl rfl rfl (by kernel_rfl) Tryz.func6 closed
    (of_decide_eq_true (by kernel_rfl)) (by unfold Func.isWrapper; first | (rw [if_pos (by decide +kernel)]; kernel_rfl) | (rw [if_neg (by decide +kernel)]; exact ⟨rfl, rfl⟩))
    (fun os started H enc _ F => by rw [OpenClaim.pre_eq_preRow]; exact lifted os started H enc F)

theorem plain (f : FuncId) (fn : Func) (hf : Tryz.pinned.checked.prog.funcNamed "specie/specielaw22.SignatureParts" = some f) (hfn : Tryz.pinned.checked.prog.funcs[f]? = some fn) :
    false = Tryz.pinned.checked.prog.looks [] ∧ ∀ (j : Nat) t, fn.params[j]? = some t → Tryz.pinned.checked.prog.wantsStandIn t = false := by
  obtain rfl : f = 6 := Option.some.inj ((show Tryz.prog.funcNamed "specie/specielaw22.SignatureParts" = some 6 by kernel_rfl).symm.trans hf) |>.symm
  obtain rfl : fn = Tryz.f6 := (Option.some.inj (Tryz.func6.symm.trans hfn)).symm
  refine ⟨by kernel_rfl, fun j t ht => ?_⟩
  have hall : Tryz.f6.params.toList.all (fun t => !Tryz.prog.wantsStandIn t) = true := by kernel_rfl
  have := List.all_eq_true.1 hall t (by rw [← Array.mem_toList_iff.symm]; exact Array.mem_of_getElem? ht)
  exact (by simpa using this : Tryz.prog.wantsStandIn t = false)

/-- The card. -/
theorem card : Rows.SignaturePartsCardSaid :=
  Claim7.holds_tied_plain_at .later [] _ _ _ _ said (fun _ h => by cases h) (by kernel_rfl) (fun _ h => by cases h) signatureParts_row_tie rfl ⟨rfl, rfl⟩ (by kernel_rfl) rfl plain (by kernel_rfl)
end Go.Proofs.YtdlcmpbpdbpanaaGreatDoor.lawSignatureParts
