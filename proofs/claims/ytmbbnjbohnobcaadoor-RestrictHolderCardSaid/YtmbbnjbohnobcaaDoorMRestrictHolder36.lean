/- The holder of an account knows the Z of the offer and the representation of the pseudonym: specielaw25.RestrictHolder returns true. For every input; the tables of packages math/bits, prime and digest as the program's text lays them. RestrictHolder: the walk. -/
import Derived.Test.YtmbbnjbohnobcaaDoorMRestrictHolder35
import Derived.Test.YtmbbnjbohnobcaaDoorMRestrictHolder18
import Derived.Lay
namespace Go.Proofs.YtmbbnjbohnobcaaDoor
open Go.RowKit Go.Sp
set_option maxHeartbeats 4000000
set_option maxRecDepth 20000

theorem gpw_scalar {P Q a k : Int} (h0 : 0 ≤ k) (h1 : k < Q) : gpw P Q a k = pwi P a k := by
  unfold gpw pwi
  rw [Int.emod_eq_of_lt h0 h1]

/-- The product of a power and a number, by the law's own function. -/
theorem rep_ok (P Q G x y k : Int) (b : Nat) (w : World) (hQ : Q ≤ 9223372036854775807) (hT : Tab w) (hg : gvB P Q G = true) (hx : elB P Q x = true) (hy : elB P Q y = true) (k0 : 0 ≤ k) (k1 : k < Q) (hb : GrpAt w b P Q G) :
    Calls Tryd.prog 51 #[.int .i64 x, .int .i64 y, .int .i64 k, .pointer (some ⟨b, 0, none⟩)] w fun e w' => e = .returned (.tuple #[.int .i64 (pwi P x k * y % P), .bool true]) ∧ Up w w' := by
  have g := gv_iff.1 hg
  have g2 := g.P4
  have g3 := g.Q3
  have M1 := hid (fun w' (hU : Up w w') => gPower_ok P Q G x k w' hQ (hT.up hU) hg hx (by omega) (by omega))
  rw [gpw_scalar k0 k1] at M1
  have M2 := hid (fun w' (hU : Up w w') => gMul_ok P Q G (pwi P x k) y w' hQ (hT.up hU) hg (el_pw (by omega) (by omega) hx _) hy)
  have HB := hid hb
  obtain ⟨c0, c1, c2⟩ := hb
  clear hT hg g hx hy
  go_enter Tryd.func51, Tryd.ntmps51
  go_wp2_with fail
  refine (M1.out _ (Up.refl _)).mono ?_
  rintro e w1 ⟨rfl, hU1⟩
  have HB1 := hid (HB.out.up hU1)
  have HU1 := hid hU1
  clear c0 c1 c2 hU1
  obtain ⟨c0, c1, c2⟩ := HB1.out
  go_wp2_with fail
  refine (M2.out _ HU1.out).mono ?_
  rintro e w2 ⟨rfl, hU2⟩
  have HU2 := hid (HU1.out.trans hU2)
  clear hU2 c0 c1 c2
  go_wp2
  go_ret2
  exact ⟨rfl, HU2.out⟩

theorem RestrictHolder_walk (P Q G A B C x u n : Int) (root : Nat → Int) (fs fu fv : Int) (w : World) (hP : -9223372036854775808 ≤ P) (hQ : Q ≤ 9223372036854775807) (hT : Tab w) (hS : TabS w) (hR : Byt root) :
    Calls Tryd.prog 9 #[bas P Q G A B C, .int .i64 x, .int .i64 u, .int .i64 n, hashV root, .agg #[.int .i64 fs, .int .i64 fu, .int .i64 fv]] w fun e w' => e = .returned (.bool true) ∧ Up w w' := by
  have HT := hid hT
  have HS := hid hS
  have HR := hid hR
  obtain ⟨cs, hcs⟩ : ∃ cs, arrK .u8 root 32 = cs := ⟨_, rfl⟩
  have HCs := hid hcs
  have HCz : Hid ((Tryd.prog.info? 67).map (·.size) = some cs.size) := hid (by rw [← hcs, arrK_size]; kernel_rfl)
  have HBl := hid (fun (m vm z a b vc vr s u v : Int) w' (hU : Up w w') hg hm hz ha hb hf => resBlind_ok P Q G A B C m vm z a b vc vr s u v root w' (hT.up hU) (hS.up hU) hR hg hm hz ha hb hf)
  unfold hashV at HBl ⊢
  rw [hcs] at HBl ⊢
  clear hT hS hR hcs
  go_enter Tryd.func9, Tryd.ntmps9
  go_wp2_with fail
  refine (awake25 _ (HT.out.up (((Up.refl w).alloc _).alloc _ |>.alloc _))).mono ?_
  rintro e w1 ⟨rfl, hU1⟩
  have HU1 := hid (((((Up.refl w).alloc _).alloc _).alloc _).trans hU1)
  obtain ⟨o, ho⟩ : ∃ o, w.heap.size = o := ⟨_, rfl⟩
  have hA : BasAt w1 o P Q G A B C := ((nums_six ho).up (((Up.refl _).alloc _).alloc _)).up hU1
  have hC : Blk w1 (o + 1) 67 cs := ((Blk.new (by simp [ho]) rfl).alloc _).up hU1
  have hD : GrpAt w1 (o + 2) fs fu fv := (nums_three (by simp [ho])).up hU1
  rw [ho]
  obtain ⟨o1, ho1⟩ : ∃ o1, o + 1 = o1 := ⟨_, rfl⟩
  obtain ⟨o2, ho2⟩ : ∃ o2, o1 + 1 = o2 := ⟨_, rfl⟩
  rw [ho1] at hC
  rw [show o + 2 = o2 by omega] at hD
  rw [ho1, ho2]
  have HA1 := hid hA
  have HC1 := hid hC
  have HD1 := hid hD
  clear hA hC hD hU1 ho ho1 ho2
  obtain ⟨⟨c0, c1, c2⟩, c3, c4, c5⟩ := HA1.out
  have HV := hid (fun w' => rbValid_any P Q G A B C w' hP hQ)
  go_wp2_with fail
  refine (HV.out _).mono ?_
  rintro e w2 ⟨rfl, hU2⟩
  have HA2 := hid (HA1.out.up hU2)
  have HC2 := hid (HC1.out.up hU2)
  have HD2 := hid (HD1.out.up hU2)
  have HU2 := hid (HU1.out.trans hU2)
  clear hU2 HA1 HC1 HD1 HU1 c0 c1 c2 c3 c4 c5 HV
  obtain ⟨⟨c0, c1, c2⟩, c3, c4, c5⟩ := HA2.out
  by_cases hg : bvB P Q G A B C = true
  case neg =>
    have hg' : bvB P Q G A B C = false := by simpa using hg
    rw [hg']
    clear hg hg'
    go_wp2
    go_ret
    exact ⟨rfl, HU2.out⟩
  have Hg := hid hg
  rw [hg]
  obtain ⟨hg1, ha, hb, hc⟩ := bv_iff.1 hg
  have Hg1 := hid hg1
  have HAe := hid ha.2
  have HBe := hid hb.2
  have g := gv_iff.1 hg1
  have g1 := g.P61
  have g2 := g.P4
  have g3 := g.Q3
  have g4 := g.QP
  have hGe : elB P Q G = true := el_iff.2 ⟨by have := g.G2; omega, g.GP, g.GQ⟩
  have HGe := hid hGe
  clear hg g hg1 ha hb hc hGe
  go_wp2_with fail
  refine (r25Secret_any P Q G x _).mono ?_
  rintro e w3 ⟨rfl, hU3⟩
  have HA3 := hid (HA2.out.up hU3)
  have HC3 := hid (HC2.out.up hU3)
  have HD3 := hid (HD2.out.up hU3)
  have HU3 := hid (HU2.out.trans hU3)
  clear hU3 HA2 HC2 HD2 HU2 c0 c1 c2 c3 c4 c5
  obtain ⟨⟨c0, c1, c2⟩, c3, c4, c5⟩ := HA3.out
  by_cases hx : nzB Q x = true
  case neg =>
    have hx' : nzB Q x = false := by simpa using hx
    rw [hx']
    clear hx hx'
    go_wp2
    go_ret
    exact ⟨rfl, HU3.out⟩
  have Hx := hid hx
  rw [hx]
  clear hx
  go_wp2_with fail
  refine (r25Scalar_any P Q G u _).mono ?_
  rintro e w4 ⟨rfl, hU4⟩
  have HA4 := hid (HA3.out.up hU4)
  have HC4 := hid (HC3.out.up hU4)
  have HD4 := hid (HD3.out.up hU4)
  have HU4 := hid (HU3.out.trans hU4)
  clear hU4 HA3 HC3 HD3 HU3 c0 c1 c2 c3 c4 c5
  obtain ⟨⟨c0, c1, c2⟩, c3, c4, c5⟩ := HA4.out
  by_cases hu : exB Q u = true
  case neg =>
    have hu' : exB Q u = false := by simpa using hu
    rw [hu']
    clear hu hu'
    go_wp2
    go_ret
    exact ⟨rfl, HU4.out⟩
  have Hu := hid hu
  rw [hu]
  clear hu
  go_wp2_with fail
  refine (r25Scalar_any P Q G n _).mono ?_
  rintro e w5 ⟨rfl, hU5⟩
  have HA5 := hid (HA4.out.up hU5)
  have HC5 := hid (HC4.out.up hU5)
  have HD5 := hid (HD4.out.up hU5)
  have HU5 := hid (HU4.out.trans hU5)
  clear hU5 HA4 HC4 HD4 HU4 c0 c1 c2 c3 c4 c5
  obtain ⟨⟨c0, c1, c2⟩, c3, c4, c5⟩ := HA5.out
  obtain ⟨d0, d1, d2⟩ := HD5.out
  by_cases hn : exB Q n = true
  case neg =>
    have hn' : exB Q n = false := by simpa using hn
    rw [hn']
    clear hn hn'
    go_wp2
    go_ret
    exact ⟨rfl, HU5.out⟩
  have Hn := hid hn
  rw [hn]
  clear hn
  go_wp2_with fail
  refine (r25Factors_any P Q G fs fu fv _).mono ?_
  rintro e w6 ⟨rfl, hU6⟩
  have HA6 := hid (HA5.out.up hU6)
  have HC6 := hid (HC5.out.up hU6)
  have HD6 := hid (HD5.out.up hU6)
  have HU6 := hid (HU5.out.trans hU6)
  clear hU6 HA5 HC5 HD5 HU5 c0 c1 c2 c3 c4 c5 d0 d1 d2
  obtain ⟨⟨c0, c1, c2⟩, c3, c4, c5⟩ := HA6.out
  by_cases hf : facB Q fs fu fv = true
  case neg =>
    have hf' : facB Q fs fu fv = false := by simpa using hf
    rw [hf']
    clear hf hf'
    go_wp2
    go_ret
    exact ⟨rfl, HU6.out⟩
  have Hf := hid hf
  rw [hf]
  have hf' := hf
  simp only [facB, Bool.and_eq_true] at hf'
  obtain ⟨s0, s1⟩ := nzB_iff.1 hf'.1
  obtain ⟨x0, x1⟩ := nzB_iff.1 Hx.out
  obtain ⟨u0, u1⟩ := exB_iff.1 Hu.out
  obtain ⟨n0, n1⟩ := exB_iff.1 Hn.out
  have hop : o < w6.heap.size := cell_lt c0
  clear hf hf'
  obtain ⟨m, hm⟩ : ∃ m, pwi P A u * B % P = m := ⟨_, rfl⟩
  have Hm := hid hm
  have hme : elB P Q m = true := by rw [← hm]; exact el_mul (by omega) (by omega) (el_pw (by omega) (by omega) HAe.out _) HBe.out
  have Hme := hid hme
  have M1 := hid (fun b w' (hU : Up w w') hb => rep_ok P Q G A B u b w' hQ (HT.out.up hU) Hg1.out HAe.out HBe.out u0 u1 hb)
  rw [hm] at M1
  have M2 := hid (fun b w' (hU : Up w w') hb => rep_ok P Q G (pwi P A x) (pwi P B x) u b w' hQ (HT.out.up hU) Hg1.out (el_pw (by omega) (by omega) HAe.out _) (el_pw (by omega) (by omega) HBe.out _) u0 u1 hb)
  have hze : pwi P (pwi P A x) u * pwi P B x % P = pwi P m x := by
    rw [← hm]
    unfold pwi
    rw [pw_prod, ← pw_mul, ← pw_mul, Nat.mul_comm]
  rw [hze] at M2
  have hqe : pwi P (pwi P A u) fs * pwi P B fs % P = pwi P m fs := by
    rw [← hm]
    unfold pwi
    rw [pw_prod]
  clear hm hme
  go_wp2_with fail
  have HGb := hid (grp_new (w := w6) (x := P) (y := Q) (z := G) (t := 23) rfl)
  obtain ⟨gb, hgb⟩ : ∃ gb, w6.heap.size = gb := ⟨_, rfl⟩
  rw [hgb] at HGb
  rw [hgb]
  have hogb : o < gb := by omega
  clear hgb hop
  refine (M1.out gb _ (HU6.out.alloc _) HGb.out).mono ?_
  rintro e w7 ⟨rfl, hU7⟩
  have HGb7 := hid (HGb.out.up hU7)
  have HA7 := hid ((HA6.out.up ((Up.refl _).alloc _)).up hU7)
  have HC7 := hid ((HC6.out.alloc _).up hU7)
  have HD7 := hid ((HD6.out.up ((Up.refl _).alloc _)).up hU7)
  have HU7 := hid ((HU6.out.alloc _).trans hU7)
  clear hU7 HGb HA6 HC6 HD6 HU6 c0 c1 c2 c3 c4 c5 M1
  obtain ⟨⟨c0, c1, c2⟩, c3, c4, c5⟩ := HA7.out
  by_cases hm1 : m = 1
  · have dm : (m == 1) = true := by simpa using hm1
    clear hm1
    go_wp2
    go_ret
    exact ⟨rfl, HU7.out⟩
  have dm : (m == 1) = false := by simpa using hm1
  have hgm : gnB P Q m = true := by simp [gnB, hm1, Hme.out]
  have HGm := hid hgm
  have hE1 : errE (bvB P Q G A B C) (nzB Q x) = 0 := by rw [errE, if_pos Hg.out, if_pos Hx.out]
  have hE2 : errE (bvB P Q G A B C) (nzB Q x && (gnB P Q m && exB Q n)) = 0 := by rw [errE, if_pos Hg.out, if_pos (by simp [Hx.out, hgm, Hn.out])]
  have HK := hid (fun w' (hU : Up w w') => resKey_any P Q G A B C x w' hP hQ (HT.out.up hU))
  have HOf := hid (fun w' (hU : Up w w') => resOffer_any P Q G A B C x m n w' hP hQ (HT.out.up hU))
  rw [hE1] at HK
  rw [hE2] at HOf
  simp only [orZ, if_true] at HK HOf
  have hz1 : elB P Q (pwi P m x) = true := el_pw (by omega) (by omega) Hme.out _
  have hz2 : elB P Q (pwi P G n) = true := el_pw (by omega) (by omega) HGe.out _
  have hz3 : elB P Q (pwi P m n) = true := el_pw (by omega) (by omega) Hme.out _
  have HB := hid (fun w' (hU : Up w w') => HBl.out m 0 (pwi P m x) (pwi P G n) (pwi P m n) 0 0 fs fu fv w' hU Hg.out hgm hz1 hz2 hz3 Hf.out)
  obtain ⟨K0, hK0⟩ : ∃ K, pwi P G x = K := ⟨_, rfl⟩
  obtain ⟨K1, hK1⟩ : ∃ K, pwi P A x = K := ⟨_, rfl⟩
  obtain ⟨K2, hK2⟩ : ∃ K, pwi P B x = K := ⟨_, rfl⟩
  obtain ⟨Z1, hZ1⟩ : ∃ K, pwi P m x = K := ⟨_, rfl⟩
  obtain ⟨Z2, hZ2⟩ : ∃ K, pwi P G n = K := ⟨_, rfl⟩
  obtain ⟨Z3, hZ3⟩ : ∃ K, pwi P m n = K := ⟨_, rfl⟩
  rw [hK0, hK1, hK2] at HK
  rw [hK1, hK2, hZ1] at M2
  rw [hZ1, hZ2, hZ3] at HOf HB
  have P1 := hid (fun w' (hU : Up w w') => gPower_ok P Q G A u w' hQ (HT.out.up hU) Hg1.out HAe.out (by omega) (by omega))
  rw [gpw_scalar u0 u1] at P1
  have hAu : elB P Q (pwi P A u) = true := el_pw (by omega) (by omega) HAe.out _
  have P2 := hid (fun w' (hU : Up w w') => gPower_ok P Q G (pwi P A u) fs w' hQ (HT.out.up hU) Hg1.out hAu (by omega) (by omega))
  have P3 := hid (fun w' (hU : Up w w') => gPower_ok P Q G B fs w' hQ (HT.out.up hU) Hg1.out HBe.out (by omega) (by omega))
  rw [gpw_scalar (by omega) s1] at P2 P3
  have P4 := hid (fun w' (hU : Up w w') => gMul_ok P Q G (pwi P (pwi P A u) fs) (pwi P B fs) w' hQ (HT.out.up hU) Hg1.out (el_pw (by omega) (by omega) hAu _) (el_pw (by omega) (by omega) HBe.out _))
  rw [hqe] at P4
  obtain ⟨Y1, hY1⟩ : ∃ Y, pwi P A u = Y := ⟨_, rfl⟩
  rw [hY1] at P1 P2 P4
  obtain ⟨Y2, hY2⟩ : ∃ Y, pwi P Y1 fs = Y := ⟨_, rfl⟩
  rw [hY2] at P2 P4
  obtain ⟨Y3, hY3⟩ : ∃ Y, pwi P B fs = Y := ⟨_, rfl⟩
  rw [hY3] at P3 P4
  obtain ⟨R, hR⟩ : ∃ R, pwi P m fs = R := ⟨_, rfl⟩
  rw [hR] at P4
  unfold BlindOut at HB
  rw [hR] at HB
  clear hm1 hgm hE1 hE2 hz1 hz2 hz3 hK0 hK1 hK2 hZ1 hZ2 hZ3 hAu hY1 hY2 hY3 hR hqe hze HBl HT s0 s1 x0 x1 u0 u1 n0 n1
  go_wp2_with fail
  refine (HK.out _ HU7.out).mono ?_
  rintro e w8 ⟨rfl, hU8⟩
  have HGb8 := hid (HGb7.out.up hU8)
  have HA8 := hid (HA7.out.up hU8)
  have HC8 := hid (HC7.out.up hU8)
  have HD8 := hid (HD7.out.up hU8)
  have HU8 := hid (HU7.out.trans hU8)
  clear hU8 HGb7 HA7 HC7 HD7 HU7 c0 c1 c2 c3 c4 c5 HK
  obtain ⟨⟨c0, c1, c2⟩, c3, c4, c5⟩ := HA8.out
  have lo8 : o < w8.heap.size := cell_lt c0
  go_wp2_with fail
  refine (HOf.out _ (HU8.out.alloc _)).mono ?_
  rintro e w9 ⟨rfl, hU9⟩
  have HKb9 := hid ((grp_new (w := w8) (x := K0) (y := K1) (z := K2) (t := 41) rfl).up hU9)
  have hU9 := ((Up.refl w8).alloc _).trans hU9
  have HGb9 := hid (HGb8.out.up hU9)
  have HA9 := hid (HA8.out.up hU9)
  have HC9 := hid (HC8.out.up hU9)
  have HD9 := hid (HD8.out.up hU9)
  have HU9 := hid (HU8.out.trans hU9)
  clear hU9 HGb8 HA8 HC8 HD8 HU8 c0 c1 c2 c3 c4 c5 HOf lo8
  obtain ⟨k0, k1, k2⟩ := HKb9.out
  go_wp2_with fail
  refine (M2.out gb _ HU9.out HGb9.out).mono ?_
  rintro e w10 ⟨rfl, hU10⟩
  have HGb10 := hid (HGb9.out.up hU10)
  have HA10 := hid (HA9.out.up hU10)
  have HC10 := hid (HC9.out.up hU10)
  have HD10 := hid (HD9.out.up hU10)
  have HU10 := hid (HU9.out.trans hU10)
  clear hU10 HGb9 HA9 HC9 HD9 HU9 k0 k1 k2 HKb9 M2
  obtain ⟨⟨c0, c1, c2⟩, c3, c4, c5⟩ := HA10.out
  obtain ⟨d0, d1, d2⟩ := HD10.out
  go_wp2_with (refine wpList_load_row rfl 67 _ rfl o1 rfl 67 cs (0, 0) _ HC10.out Tryd.underlying67 rfl HCz.out ?_)
  refine (HB.out _ HU10.out).mono ?_
  rintro e w11 ⟨p', a', b', c', d', i', e', rfl, hU11, hp', he'⟩
  have HP' := hid hp'
  have HGb11 := hid (HGb10.out.up hU11)
  have HA11 := hid (HA10.out.up hU11)
  have HD11 := hid (HD10.out.up hU11)
  have HU11 := hid (HU10.out.trans hU11)
  have HE' := hid he'
  clear hU11 HGb10 HA10 HC10 HD10 HU10 c0 c1 c2 c3 c4 c5 d0 d1 d2 HB hp' he'
  rcases HE'.out with he | he
  case inr =>
    subst he
    go_wp2
    go_ret
    exact ⟨rfl, HU11.out.alloc _⟩
  have hp := HP'.out he
  subst he
  subst hp
  obtain ⟨⟨c0, c1, c2⟩, c3, c4, c5⟩ := HA11.out
  obtain ⟨d0, d1, d2⟩ := HD11.out
  obtain ⟨g0, g1', g2'⟩ := HGb11.out
  have lo11 : o < w11.heap.size := cell_lt c0
  have ld11 : o2 < w11.heap.size := cell_lt d0
  have lg11 : gb < w11.heap.size := cell_lt g0
  go_wp2_with fail
  refine (P1.out _ (HU11.out.alloc _)).mono ?_
  rintro e w12 ⟨rfl, hU12⟩
  have hU12 := ((Up.refl w11).alloc _).trans hU12
  have HGb12 := hid (HGb11.out.up hU12)
  have HA12 := hid (HA11.out.up hU12)
  have HD12 := hid (HD11.out.up hU12)
  have HU12 := hid (HU11.out.trans hU12)
  clear hU12 HGb11 HA11 HD11 HU11 c0 c1 c2 c3 c4 c5 d0 d1 d2 g0 g1' g2' lo11 ld11 lg11 P1
  obtain ⟨⟨c0, c1, c2⟩, c3, c4, c5⟩ := HA12.out
  obtain ⟨d0, d1, d2⟩ := HD12.out
  obtain ⟨g0, g1', g2'⟩ := HGb12.out
  go_wp2_with fail
  refine (P2.out _ HU12.out).mono ?_
  rintro e w13 ⟨rfl, hU13⟩
  have HGb13 := hid (HGb12.out.up hU13)
  have HA13 := hid (HA12.out.up hU13)
  have HD13 := hid (HD12.out.up hU13)
  have HU13 := hid (HU12.out.trans hU13)
  clear hU13 HGb12 HA12 HD12 HU12 c0 c1 c2 c3 c4 c5 d0 d1 d2 g0 g1' g2' P2
  obtain ⟨⟨c0, c1, c2⟩, c3, c4, c5⟩ := HA13.out
  obtain ⟨d0, d1, d2⟩ := HD13.out
  obtain ⟨g0, g1', g2'⟩ := HGb13.out
  go_wp2_with fail
  refine (P3.out _ HU13.out).mono ?_
  rintro e w14 ⟨rfl, hU14⟩
  have HGb14 := hid (HGb13.out.up hU14)
  have HU14 := hid (HU13.out.trans hU14)
  clear hU14 HGb13 HA13 HD13 HU13 c0 c1 c2 c3 c4 c5 d0 d1 d2 g0 g1' g2' P3
  obtain ⟨g0, g1', g2'⟩ := HGb14.out
  go_wp2_with fail
  refine (P4.out _ HU14.out).mono ?_
  rintro e w15 ⟨rfl, hU15⟩
  have HU15 := hid (HU14.out.trans hU15)
  clear hU15 g0 g1' g2' P4
  go_wp2
  go_ret
  exact ⟨by simp, HU15.out⟩
end Go.Proofs.YtmbbnjbohnobcaaDoor
namespace Go.Proofs.YtmbbnjbohnobcaaDoor.lawRestrictHolder
open Go.Proofs.YtmbbnjbohnobcaaDoor Go.ChangeShapes Go.WideShapes Go.ChangeAt Go.RowKit Go.Sp

set_option maxRecDepth 100000 in
theorem contract (H : Type) (enc : TypeId × Value → H) (W : World) (base : Nat) (args : Array Value) (ds gs : List (DataW H)) (before : List MemPlace)
    (hval : ∀ (j : Nat) t v, Tryd.f9.params[j]? = some t → args[j]? = some v → Value.okWide Tryd.prog W .any base t v)
    (hW : DataW.Whole enc Tryd.prog Tryd.f9.params.toList Rows.restrictHolderSpec.vars false W args.toList ds gs before) (hL : laidMetH Tryd.prog Rows.restrictHolderRow.laid W) :
    Calls Tryd.prog 9 args W fun e W' => ∃ v, e = .returned v ∧ Rows.restrictHolderSpec.post enc Tryd.prog Tryd.f9 false true false false W args v W' := by
  have hT := tab_of_four hL
  have hS := tabS_of_four hL
  have hW' := hW
  obtain ⟨p, q, hA0, hV, rfl, hfz, hnd⟩ := hW
  have hA : DataW.TrodAll enc Tryd.prog W 0 (fun _ => true) true Tryd.f9.params.toList args.toList ds p := hA0
  rw [Tryd.params9] at hA hval
  obtain ⟨v0, vs0, d0, ds0, p0, q0, hargs, rfl, rfl, h0, r0⟩ := trodAll_cons hA
  obtain ⟨v1, vs1, d1, ds1, p1, q1, rfl, rfl, rfl, h1, r1⟩ := trodAll_cons r0
  obtain ⟨v2, vs2, d2, ds2, p2, q2, rfl, rfl, rfl, h2, r2⟩ := trodAll_cons r1
  obtain ⟨v3, vs3, d3, ds3, p3, q3, rfl, rfl, rfl, h3, r3⟩ := trodAll_cons r2
  obtain ⟨v4, vs4, d4, ds4, p4, q4, rfl, rfl, rfl, h4, r4⟩ := trodAll_cons r3
  obtain ⟨v5, vs5, d5, ds5, p5, q5, rfl, rfl, rfl, h5, r5⟩ := trodAll_cons r4
  obtain ⟨rfl, rfl, rfl⟩ := trodAll_nil r5
  obtain rfl : args = #[v0, v1, v2, v3, v4, v5] := by cases args; simp_all
  obtain ⟨rfl, rfl⟩ := trodVars_none hV
  obtain ⟨P0, Q0, G0, A0, B0, C0, rfl, bP0, bQ0, bG0, bA0, bB0, bC0⟩ := open_bases (hval 0 39 v0 rfl rfl) h0
  obtain ⟨x1, rfl, bx1, by1⟩ := open_i64 (hval 1 3 v1 rfl rfl) h1
  obtain ⟨x2, rfl, bx2, by2⟩ := open_i64 (hval 2 3 v2 rfl rfl) h2
  obtain ⟨x3, rfl, bx3, by3⟩ := open_i64 (hval 3 3 v3 rfl rfl) h3
  obtain ⟨rt4, rfl, hr4⟩ := open_hash (hval 4 67 v4 rfl rfl) h4
  obtain ⟨x5a, x5b, x5c, rfl, b5⟩ := open_factors (hval 5 60 v5 rfl rfl) h5
  refine (RestrictHolder_walk P0 Q0 G0 A0 B0 C0 x1 x2 x3 rt4 x5a x5b x5c W bP0.1 bQ0.2 hT hS hr4).mono fun e W' ⟨he, hU⟩ => ?_
  exact ⟨_, he, law_shut Tryd.underlying4 (by kernel_rfl) rfl rfl laidOut (by kernel_rfl) hW' hU⟩

theorem laid_met (os : Os) : laidMet Tryd.prog Rows.restrictHolderRow.laid ((World.laidAll Tryd.prog os laidFour).forCall (fun _ _ => 0) ⟨#[], #[.agg #[.int .i64 0, .int .i64 0, .int .i64 0, .int .i64 0, .int .i64 0, .int .i64 0], .int .i64 0, .int .i64 0, .int .i64 0, .agg #[.int .u8 0, .int .u8 0, .int .u8 0, .int .u8 0, .int .u8 0, .int .u8 0, .int .u8 0, .int .u8 0, .int .u8 0, .int .u8 0, .int .u8 0, .int .u8 0, .int .u8 0, .int .u8 0, .int .u8 0, .int .u8 0, .int .u8 0, .int .u8 0, .int .u8 0, .int .u8 0, .int .u8 0, .int .u8 0, .int .u8 0, .int .u8 0, .int .u8 0, .int .u8 0, .int .u8 0, .int .u8 0, .int .u8 0, .int .u8 0, .int .u8 0, .int .u8 0], .agg #[.int .i64 0, .int .i64 0, .int .i64 0]], []⟩).memory :=
  laidMet_laidAll _ (by kernel_rfl) (by kernel_rfl)
theorem reads (os : Os) {H : Type} (enc : TypeId × Value → H) : ∃ places, DataW.whole enc Tryd.prog ((World.laidAll Tryd.prog os laidFour).forCall (fun _ _ => 0) ⟨#[], #[.agg #[.int .i64 0, .int .i64 0, .int .i64 0, .int .i64 0, .int .i64 0, .int .i64 0], .int .i64 0, .int .i64 0, .int .i64 0, .agg #[.int .u8 0, .int .u8 0, .int .u8 0, .int .u8 0, .int .u8 0, .int .u8 0, .int .u8 0, .int .u8 0, .int .u8 0, .int .u8 0, .int .u8 0, .int .u8 0, .int .u8 0, .int .u8 0, .int .u8 0, .int .u8 0, .int .u8 0, .int .u8 0, .int .u8 0, .int .u8 0, .int .u8 0, .int .u8 0, .int .u8 0, .int .u8 0, .int .u8 0, .int .u8 0, .int .u8 0, .int .u8 0, .int .u8 0, .int .u8 0, .int .u8 0, .int .u8 0], .agg #[.int .i64 0, .int .i64 0, .int .i64 0]], []⟩).memory Tryd.f9.params.toList Rows.restrictHolderSpec.vars false (#[.agg #[.int .i64 0, .int .i64 0, .int .i64 0, .int .i64 0, .int .i64 0, .int .i64 0], .int .i64 0, .int .i64 0, .int .i64 0, .agg #[.int .u8 0, .int .u8 0, .int .u8 0, .int .u8 0, .int .u8 0, .int .u8 0, .int .u8 0, .int .u8 0, .int .u8 0, .int .u8 0, .int .u8 0, .int .u8 0, .int .u8 0, .int .u8 0, .int .u8 0, .int .u8 0, .int .u8 0, .int .u8 0, .int .u8 0, .int .u8 0, .int .u8 0, .int .u8 0, .int .u8 0, .int .u8 0, .int .u8 0, .int .u8 0, .int .u8 0, .int .u8 0, .int .u8 0, .int .u8 0, .int .u8 0, .int .u8 0], .agg #[.int .i64 0, .int .i64 0, .int .i64 0]] : Array Value).toList 8 = some ([.agg [.agg [.lit (.int .i64 0), .lit (.int .i64 0), .lit (.int .i64 0)], .lit (.int .i64 0), .lit (.int .i64 0), .lit (.int .i64 0)], .lit (.int .i64 0), .lit (.int .i64 0), .lit (.int .i64 0), .agg [.lit (.int .u8 0), .lit (.int .u8 0), .lit (.int .u8 0), .lit (.int .u8 0), .lit (.int .u8 0), .lit (.int .u8 0), .lit (.int .u8 0), .lit (.int .u8 0), .lit (.int .u8 0), .lit (.int .u8 0), .lit (.int .u8 0), .lit (.int .u8 0), .lit (.int .u8 0), .lit (.int .u8 0), .lit (.int .u8 0), .lit (.int .u8 0), .lit (.int .u8 0), .lit (.int .u8 0), .lit (.int .u8 0), .lit (.int .u8 0), .lit (.int .u8 0), .lit (.int .u8 0), .lit (.int .u8 0), .lit (.int .u8 0), .lit (.int .u8 0), .lit (.int .u8 0), .lit (.int .u8 0), .lit (.int .u8 0), .lit (.int .u8 0), .lit (.int .u8 0), .lit (.int .u8 0), .lit (.int .u8 0)], .agg [.lit (.int .i64 0), .lit (.int .i64 0), .lit (.int .i64 0)]], [], places) :=
  ⟨[], by kernel_rfl⟩

set_option maxRecDepth 100000 in
theorem lifted (os : Os) (started : os.Started) (H : Type) (enc : TypeId × Value → H) (F : Stop.Interp) :
    ReturnsInHanded {} Tryd.checked os 9 .any ((OpenSpec.ofChange Rows.restrictHolderSpec).preRow enc Tryd.prog Tryd.f9 Rows.restrictHolderRow.domain false Rows.restrictHolderRow.laid) (((OpenSpec.ofChange Rows.restrictHolderSpec).at F).post enc Tryd.prog Tryd.f9 false true false false) := by
  obtain ⟨places, hx⟩ := reads os enc
  refine returnsInHanded_of_row (C := Tryd.checked) (s := OpenSpec.ofChange Rows.restrictHolderSpec) own started (by kernel_rfl) Tryd.func9
    (witness_row_at (enc := enc) (C := Tryd.checked) false (World.laidAll Tryd.prog os laidFour) #[.agg #[.int .i64 0, .int .i64 0, .int .i64 0, .int .i64 0, .int .i64 0, .int .i64 0], .int .i64 0, .int .i64 0, .int .i64 0, .agg #[.int .u8 0, .int .u8 0, .int .u8 0, .int .u8 0, .int .u8 0, .int .u8 0, .int .u8 0, .int .u8 0, .int .u8 0, .int .u8 0, .int .u8 0, .int .u8 0, .int .u8 0, .int .u8 0, .int .u8 0, .int .u8 0, .int .u8 0, .int .u8 0, .int .u8 0, .int .u8 0, .int .u8 0, .int .u8 0, .int .u8 0, .int .u8 0, .int .u8 0, .int .u8 0, .int .u8 0, .int .u8 0, .int .u8 0, .int .u8 0, .int .u8 0, .int .u8 0], .agg #[.int .i64 0, .int .i64 0, .int .i64 0]] (World.laidAll_os _ _ _) (by kernel_rfl) (by kernel_rfl) (by kernel_rfl)
      (OpenSpec.preRow_of_cond 8 hx (by kernel_rfl) (fun k hk => by cases hk) (by kernel_rfl) (laid_met os))) ?_
  intro W base args ds gs before hval hW _ _ _ hL _ _
  exact contract H enc W base args ds gs before hval hW hL

theorem said : Rows.RestrictHolderSaid :=
  OpenClaim.holds_of_cond 9 Tryd.f9 rfl rfl rfl rfl rfl rfl rfl ⟨rfl, rfl, rfl, rfl, rfl⟩ rfl rfl rfl rfl rfl (by kernel_rfl) Tryd.func9 (by kernel_rfl)
    (of_decide_eq_true (by kernel_rfl)) (by unfold Func.isWrapper; first | (rw [if_pos (by decide +kernel)]; kernel_rfl) | (rw [if_neg (by decide +kernel)]; exact ⟨rfl, rfl⟩))
    (fun os started H enc _ F => by rw [OpenClaim.pre_eq_preRow]; exact lifted os started H enc F)

theorem plain (f : FuncId) (fn : Func) (hf : Tryd.pinned.checked.prog.funcNamed "specie/specielaw25.RestrictHolder" = some f) (hfn : Tryd.pinned.checked.prog.funcs[f]? = some fn) :
    false = Tryd.pinned.checked.prog.looks [] ∧ ∀ (j : Nat) t, fn.params[j]? = some t → Tryd.pinned.checked.prog.wantsStandIn t = false := by
  obtain rfl : f = 9 := Option.some.inj ((show Tryd.prog.funcNamed "specie/specielaw25.RestrictHolder" = some 9 by kernel_rfl).symm.trans hf) |>.symm
  obtain rfl : fn = Tryd.f9 := (Option.some.inj (Tryd.func9.symm.trans hfn)).symm
  refine ⟨by kernel_rfl, fun j t ht => ?_⟩
  have hall : Tryd.f9.params.toList.all (fun t => !Tryd.prog.wantsStandIn t) = true := by kernel_rfl
  have := List.all_eq_true.1 hall t (by rw [← Array.mem_toList_iff.symm]; exact Array.mem_of_getElem? ht)
  exact (by simpa using this : Tryd.prog.wantsStandIn t = false)

/-- The card. -/
theorem card : Rows.RestrictHolderCardSaid :=
  Claim7.holds_tied_plain_at .later [] _ _ _ _ said (fun _ h => by cases h) (by kernel_rfl) (fun _ h => by cases h) restrictHolder_row_tie rfl ⟨rfl, rfl⟩ (by kernel_rfl) rfl plain (by kernel_rfl)
end Go.Proofs.YtmbbnjbohnobcaaDoor.lawRestrictHolder
