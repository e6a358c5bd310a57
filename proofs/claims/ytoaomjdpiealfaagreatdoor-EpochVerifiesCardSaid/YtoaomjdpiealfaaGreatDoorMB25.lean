/- Package unlink: Explains. The reference of package unlink: which factors explain. Package signature: Key, the errors of Challenge, Forge. Package signature: Verify. The reference of the signature: Challenge. -/
import Derived.Test.YtoaomjdpiealfaaGreatDoorMB24
import Derived.Test.YtoaomjdpiealfaaGreatDoorMB21
import Derived.Test.YtoaomjdpiealfaaGreatDoorMB23
import Derived.Test.YtoaomjdpiealfaaGreatDoorMB20
namespace Go.Proofs.YtoaomjdpiealfaaGreatDoor
open Go.RowKit Go.Sp
set_option maxHeartbeats 4000000
set_option maxRecDepth 20000

/-- What a view and a signature without faults are. -/
theorem flt_ok {P Q G A B C k1 k2 k3 m z x y c r p : Int} {root : Nat → Int} {sz sa sb sr : Int} (h : fltE (kvB P Q G A B C k1 k2 k3) (cvB P Q G A B C k1 k2 k3 m z x y c r) (verB P Q G A B C k1 k2 k3 p root sz sa sb sr) = 0) :
    bvB P Q G A B C = true ∧ (gnB P Q m = true ∧ elB P Q z = true ∧ elB P Q x = true ∧ elB P Q y = true ∧ nzB Q c = true ∧ exB Q r = true) ∧ gnB P Q p = true ∧ elB P Q sz = true ∧ elB P Q sa = true ∧ elB P Q sb = true ∧ exB Q sr = true := by
  unfold fltE at h
  split at h
  · rename_i h1
    split at h
    · rename_i h2
      split at h
      · rename_i h3
        simp only [kvB, Bool.and_eq_true] at h1
        simp only [cvB, Bool.and_eq_true] at h2
        simp only [verB, Bool.and_eq_true, List.all_cons, List.all_nil, Bool.and_true] at h3
        exact ⟨h1.1, ⟨h2.2.1, h2.2.2.1, h2.2.2.2.1, h2.2.2.2.2.1, h2.2.2.2.2.2.1, h2.2.2.2.2.2.2.1⟩, h3.2.1, h3.2.2.2.1.1, h3.2.2.2.1.2.1, h3.2.2.2.1.2.2, h3.2.2.1⟩
      · cases h
    · cases h
  · cases h

end Go.Proofs.YtoaomjdpiealfaaGreatDoor
namespace Go.Proofs.YtoaomjdpiealfaaGreatDoor
open Go.RowKit Go.Sp
set_option maxHeartbeats 4000000
set_option maxRecDepth 20000

theorem gpw_sc {P Q a k : Int} (h0 : 0 ≤ k) (h1 : k < Q) : gpw P Q a k = pwi P a k := by
  unfold gpw pwi
  rw [Int.emod_eq_of_lt h0 h1]

theorem r26times_ok (P Q G A B C a b : Int) (w : World) (h0 : 0 ≤ a) (h1 : a < Q) (h2 : 0 ≤ b) (h3 : b < Q) (h4 : Q < 2305843009213693952) :
    Calls Tryz.prog 55 #[bas P Q G A B C, .int .i64 a, .int .i64 b] w fun r w' => r = .returned (.int .i64 (a * b % Q)) ∧ Up w w' := by
  go_enter Tryz.func55, Tryz.ntmps55
  go_wp2_with fail
  refine (rMul_ok a b Q _ h0 h1 h2 h3 h4).mono ?_
  rintro r w3 ⟨rfl, rfl⟩
  go_wp2
  go_ret
  exact ⟨rfl, (Up.refl w).alloc _⟩

/-- A power by the reference, the exponent a scalar. -/
theorem rgPower_sc (P Q G a e : Int) (w : World) (h0 : 0 ≤ a) (h1 : a < P) (h2 : 0 ≤ e) (h3 : e < Q) (h4 : P < 2305843009213693952) (h6 : Q < 2305843009213693952) :
    Calls Tryz.prog 53 #[grp P Q G, .int .i64 a, .int .i64 e] w fun r w' => r = .returned (.int .i64 (pwi P a e)) ∧ Up w w' := by
  have h := rgPower_ok P Q G a e w h0 h1 (by omega) (by omega) h4 (by omega) h6
  rwa [gpw_sc h2 h3] at h

theorem r26Fits_any (P Q G A B C m z x y c r s u v p : Int) (root : Nat → Int) (sz sa sb sr : Int) (w : World) (hR : Byt root) (g1 : P < 2305843009213693952) (g2 : 2 ≤ P) (g3 : 1 ≤ Q) (g4 : Q < 2305843009213693952) (g5 : 0 ≤ G) (g6 : G < P)
    (m0 : 0 ≤ m) (m1 : m < P) (z0 : 0 ≤ z) (z1 : z < P) (a0 : 0 ≤ x) (a1 : x < P) (b0 : 0 ≤ y) (b1 : y < P) (c0 : 0 ≤ c) (c1 : c < Q) (r0 : 0 ≤ r) (r1 : r < Q) (p0 : 0 ≤ p) (p1 : p < P) :
    Calls Tryz.prog 20 #[bas P Q G A B C, vw m z x y c r, .agg #[.int .i64 s, .int .i64 u, .int .i64 v], .int .i64 p, hashV root, sgn sz sa sb sr] w fun e w' => e = .returned (.bool (fitB P Q G m z x y c r s u v p (coinC P Q G A B C p root sz sa sb) sz sa sb sr)) ∧ Up w w' := by
  have M1 := hid (fun w' => rChallenge_any P Q G A B C p root sz sa sb sr w' g3 g4 hR)
  generalize coinC P Q G A B C p root sz sa sb = V at *
  have HB : Hid (fitB P Q G m z x y c r s u v p V sz sa sb sr = (facB Q s u v && (p == pwi P m s && (sz == pwi P z s && (sa == pwi P x u * pwi P G v % P && (sb == pwi P y (s * u % Q) * pwi P p v % P && (sr == (r * u % Q + v) % Q && V == c * u % Q))))))) := hid (by
    unfold fitB
    generalize (sr == (r * u % Q + v) % Q) = t1
    generalize (V == c * u % Q) = t2
    generalize (p == pwi P m s) = t3
    generalize (sz == pwi P z s) = t4
    generalize (sa == pwi P x u * pwi P G v % P) = t5
    generalize (sb == pwi P y (s * u % Q) * pwi P p v % P) = t6
    cases t1 <;> cases t2 <;> cases t3 <;> cases t4 <;> cases t5 <;> cases t6 <;> simp)
  generalize fitB P Q G m z x y c r s u v p V sz sa sb sr = T at *
  have M2 := hid (fun w' => r25Factors_any P Q G s u v w')
  obtain ⟨cs, hcs⟩ : ∃ cs, arrK .u8 root 32 = cs := ⟨_, rfl⟩
  have HCz : Hid ((Tryz.prog.info? 55).map (·.size) = some cs.size) := hid (by rw [← hcs, arrK_size]; kernel_rfl)
  unfold hashV at M1 ⊢
  rw [hcs] at M1 ⊢
  obtain ⟨o, ho⟩ : ∃ o, w.heap.size = o := ⟨_, rfl⟩
  have HO := hid ho
  obtain ⟨o1, ho1⟩ : ∃ o1, o + 1 = o1 := ⟨_, rfl⟩
  have HO1 := hid ho1
  obtain ⟨o2, ho2⟩ : ∃ o2, o1 + 1 = o2 := ⟨_, rfl⟩
  have HO2 := hid ho2
  obtain ⟨o3, ho3⟩ : ∃ o3, o2 + 1 = o3 := ⟨_, rfl⟩
  have HO3 := hid ho3
  obtain ⟨o4, ho4⟩ : ∃ o4, o3 + 1 = o4 := ⟨_, rfl⟩
  have HO4 := hid ho4
  obtain ⟨o5, ho5⟩ : ∃ o5, o4 + 1 = o5 := ⟨_, rfl⟩
  have HO5 := hid ho5
  clear hR hcs ho ho1 ho2 ho3 ho4 ho5
  go_enter Tryz.func20, Tryz.ntmps20
  go_wp2_with fail
  refine (M2.out _).mono ?_
  rintro e w1 ⟨rfl, hU1⟩
  have HA1 := hid (((nums_six (w := w) (t := 49) HO.out).up ((((((Up.refl _).alloc _).alloc _).alloc _).alloc _).alloc _)).up hU1)
  have HV1 := hid (((nums_six (r := o1) (t := 53) (by have := HO.out; have := HO1.out; have := HO2.out; have := HO3.out; have := HO4.out; have := HO5.out; simp; omega)).up (((((Up.refl _).alloc _).alloc _).alloc _).alloc _)).up hU1)
  have HF1 := hid (((nums_three (r := o2) (t := 59) (by have := HO.out; have := HO1.out; have := HO2.out; have := HO3.out; have := HO4.out; have := HO5.out; simp; omega)).up ((((Up.refl _).alloc _).alloc _).alloc _)).up hU1)
  have HC1 := hid (((Blk.new (g := o3) (t := 55) (by have := HO.out; have := HO1.out; have := HO2.out; have := HO3.out; have := HO4.out; have := HO5.out; simp; omega) rfl).up (((Up.refl _).alloc _).alloc _)).up hU1)
  have HS1 := hid (((Blk.new (g := o4) (t := 57) (by have := HO.out; have := HO1.out; have := HO2.out; have := HO3.out; have := HO4.out; have := HO5.out; simp; omega) rfl).up ((Up.refl _).alloc _)).up hU1)
  have HD1 := hid (((nums_three (r := o5) (t := 23) (by have := HO.out; have := HO1.out; have := HO2.out; have := HO3.out; have := HO4.out; have := HO5.out; simp; omega))).up hU1)
  have HU1 := hid ((((((((Up.refl w).alloc _).alloc _).alloc _).alloc _).alloc _).alloc _).trans hU1)
  clear hU1
  rw [HO.out, HO1.out, HO2.out, HO3.out, HO4.out, HO5.out]
  obtain ⟨⟨lc0, lc1, lc2⟩, lc3, lc4, lc5⟩ := HA1.out
  obtain ⟨⟨lb0, lb1, lb2⟩, lb3, lb4, lb5⟩ := HV1.out
  obtain ⟨lf0, lf1, lf2⟩ := HF1.out
  have ls0 := HS1.out.val (i := 0) rfl
  have ls1 := HS1.out.val (i := 1) rfl
  have ls2 := HS1.out.val (i := 2) rfl
  have ls3 := HS1.out.val (i := 3) rfl
  obtain ⟨la0, la1, la2⟩ := HD1.out
  by_cases hf : facB Q s u v = true
  case neg =>
    have hf' : facB Q s u v = false := by simpa using hf
    have hX : T = false := by rw [HB.out, hf']; rfl
    subst hX
    rw [hf']
    clear hf hf'
    go_wp2
    go_ret
    exact ⟨rfl, HU1.out⟩
  have HB0 : Hid (T = (p == pwi P m s && (sz == pwi P z s && (sa == pwi P x u * pwi P G v % P && (sb == pwi P y (s * u % Q) * pwi P p v % P && (sr == (r * u % Q + v) % Q && V == c * u % Q)))))) := hid (by rw [HB.out, hf]; rfl)
  obtain ⟨hs, hu, hv⟩ : nzB Q s = true ∧ nzB Q u = true ∧ exB Q v = true := by
    have := hf
    simp only [facB, Bool.and_eq_true] at this
    exact this
  obtain ⟨s0, s1⟩ := nzB_iff.1 hs
  obtain ⟨u0, u1⟩ := nzB_iff.1 hu
  obtain ⟨v0, v1⟩ := exB_iff.1 hv
  rw [hf]
  have r2 := Int.emod_nonneg (r * u) (show Q ≠ 0 by omega)
  have r3 := Int.emod_lt_of_pos (r * u) (show 0 < Q by omega)
  have s2 := Int.emod_nonneg (s * u) (show Q ≠ 0 by omega)
  have s3 := Int.emod_lt_of_pos (s * u) (show 0 < Q by omega)
  have N1 := hid (fun w' => r26times_ok P Q G A B C r u w' r0 r1 (by omega) (by omega) g4)
  have N2 := hid (fun w' => rReduce_ok (r * u % Q + v) Q w' (by omega) (by omega) g3 g4)
  have N3 := hid (fun w' => r26times_ok P Q G A B C c u w' c0 c1 (by omega) (by omega) g4)
  have N4 := hid (fun w' => rgPower_sc P Q G m s w' m0 m1 (by omega) (by omega) g1 g4)
  have N5 := hid (fun w' => rgPower_sc P Q G z s w' z0 z1 (by omega) (by omega) g1 g4)
  have N6 := hid (fun w' => rgPower_sc P Q G x u w' a0 a1 (by omega) (by omega) g1 g4)
  have N7 := hid (fun w' => rgPower_sc P Q G G v w' g5 g6 (by omega) (by omega) g1 g4)
  obtain ⟨x0, x1⟩ := pwi_range (P := P) (a := x) (e := u) (by omega)
  obtain ⟨x2, x3⟩ := pwi_range (P := P) (a := G) (e := v) (by omega)
  have N8 := hid (fun w' => rgMul_ok P Q G (pwi P x u) (pwi P G v) w' x0 x1 x2 x3 g1)
  have N9 := hid (fun w' => r26times_ok P Q G A B C s u w' (by omega) (by omega) (by omega) (by omega) g4)
  have N10 := hid (fun w' => rgPower_sc P Q G y (s * u % Q) w' b0 b1 s2 (by omega) g1 g4)
  have N11 := hid (fun w' => rgPower_sc P Q G p v w' p0 p1 (by omega) (by omega) g1 g4)
  obtain ⟨y0, y1⟩ := pwi_range (P := P) (a := y) (e := s * u % Q) (by omega)
  obtain ⟨y2, y3⟩ := pwi_range (P := P) (a := p) (e := v) (by omega)
  have N12 := hid (fun w' => rgMul_ok P Q G (pwi P y (s * u % Q)) (pwi P p v) w' y0 y1 y2 y3 g1)
  have hwr : IntKind.i64.wrap (r * u % Q + v) = r * u % Q + v := IntWalk.i64_in _ (by omega)
  generalize pwi P y (s * u % Q) = X10 at *
  generalize pwi P p v = X11 at *
  generalize X10 * X11 % P = X12 at *
  generalize pwi P x u = X6 at *
  generalize pwi P G v = X7 at *
  generalize X6 * X7 % P = X8 at *
  generalize pwi P m s = X4 at *
  generalize pwi P z s = X5 at *
  generalize s * u % Q = X9 at *
  generalize r * u % Q = X1 at *
  generalize (X1 + v) % Q = X2 at *
  generalize c * u % Q = X3 at *
  clear hf hs hu hv s0 s1 u0 u1 v0 v1 r2 r3 s2 s3 x0 x1 x2 x3 y0 y1 y2 y3 m0 m1 z0 z1 a0 a1 b0 b1 c0 c1 r0 r1 p0 p1 g1 g2 g3 g4 g5 g6 HB
  have flc0 := cellF lc0
  have flc1 := cellF lc1
  have flc2 := cellF lc2
  have flc3 := cellF lc3
  have flc4 := cellF lc4
  have flc5 := cellF lc5
  have flb0 := cellF lb0
  have flb1 := cellF lb1
  have flb2 := cellF lb2
  have flb3 := cellF lb3
  have flb4 := cellF lb4
  have flb5 := cellF lb5
  have flf0 := cellF lf0
  have flf1 := cellF lf1
  have flf2 := cellF lf2
  have fls0 := cellF ls0
  have fls1 := cellF ls1
  have fls2 := cellF ls2
  have fls3 := cellF ls3
  have fla0 := cellF la0
  have fla1 := cellF la1
  have fla2 := cellF la2
  clear lc0 lc1 lc2 lc3 lc4 lc5 lb0 lb1 lb2 lb3 lb4 lb5 lf0 lf1 lf2 ls0 ls1 ls2 ls3 la0 la1 la2
  go_wp2_with fail
  refine wp_region_up (by kernel_rfl) (by kernel_rfl) ?_
  repeat (go_big_quiet_step ((first
    | (go_at_call 53; first
      | ((with_reducible (show Calls _ _ #[_, .int .i64 m, .int .i64 s] _ _)); exact Calls.up_of (N4.out _))
      | ((with_reducible (show Calls _ _ #[_, .int .i64 z, .int .i64 s] _ _)); exact Calls.up_of (N5.out _))
      | ((with_reducible (show Calls _ _ #[_, .int .i64 x, .int .i64 u] _ _)); exact Calls.up_of (N6.out _))
      | ((with_reducible (show Calls _ _ #[_, .int .i64 G, .int .i64 v] _ _)); exact Calls.up_of (N7.out _))
      | ((with_reducible (show Calls _ _ #[_, .int .i64 y, .int .i64 X9] _ _)); exact Calls.up_of (N10.out _))
      | ((with_reducible (show Calls _ _ #[_, .int .i64 p, .int .i64 v] _ _)); exact Calls.up_of (N11.out _)))
    | (go_at_call 57; first
      | ((with_reducible (show Calls _ _ #[_, .int .i64 X6, _] _ _)); exact Calls.up_of (N8.out _))
      | ((with_reducible (show Calls _ _ #[_, .int .i64 X10, _] _ _)); exact Calls.up_of (N12.out _)))
    | (go_at_call 55; first
      | ((with_reducible (show Calls _ _ #[_, .int .i64 r, .int .i64 u] _ _)); exact Calls.up_of (N1.out _))
      | ((with_reducible (show Calls _ _ #[_, .int .i64 c, .int .i64 u] _ _)); exact Calls.up_of (N3.out _))
      | ((with_reducible (show Calls _ _ #[_, .int .i64 s, .int .i64 u] _ _)); exact Calls.up_of (N9.out _))))))
  refine wpQuiet_nil ?_
  rintro _ ⟨⟨w2, hU2⟩, rfl⟩
  try dsimp only
  have HA2 := hid (HA1.out.up hU2)
  have HV2 := hid (HV1.out.up hU2)
  have HF2 := hid (HF1.out.up hU2)
  have HC2 := hid (HC1.out.up hU2)
  have HS2 := hid (HS1.out.up hU2)
  have HD2 := hid (HD1.out.up hU2)
  have HU2 := hid (HU1.out.trans hU2)
  clear hU2 HA1 HV1 HF1 HC1 HS1 HD1 HU1 flc0 flc1 flc2 flc3 flc4 flc5 flb0 flb1 flb2 flb3 flb4 flb5 flf0 flf1 flf2 fls0 fls1 fls2 fls3 fla0 fla1 fla2
  obtain ⟨⟨lc0, lc1, lc2⟩, lc3, lc4, lc5⟩ := HA2.out
  obtain ⟨⟨lb0, lb1, lb2⟩, lb3, lb4, lb5⟩ := HV2.out
  obtain ⟨lf0, lf1, lf2⟩ := HF2.out
  have ls0 := HS2.out.val (i := 0) rfl
  have ls1 := HS2.out.val (i := 1) rfl
  have ls2 := HS2.out.val (i := 2) rfl
  have ls3 := HS2.out.val (i := 3) rfl
  obtain ⟨la0, la1, la2⟩ := HD2.out
  have flc0 := cellF lc0
  have flc1 := cellF lc1
  have flc2 := cellF lc2
  have flc3 := cellF lc3
  have flc4 := cellF lc4
  have flc5 := cellF lc5
  have flb0 := cellF lb0
  have flb1 := cellF lb1
  have flb2 := cellF lb2
  have flb3 := cellF lb3
  have flb4 := cellF lb4
  have flb5 := cellF lb5
  have flf0 := cellF lf0
  have flf1 := cellF lf1
  have flf2 := cellF lf2
  have fls0 := cellF ls0
  have fls1 := cellF ls1
  have fls2 := cellF ls2
  have fls3 := cellF ls3
  have fla0 := cellF la0
  have fla1 := cellF la1
  have fla2 := cellF la2
  clear lc0 lc1 lc2 lc3 lc4 lc5 lb0 lb1 lb2 lb3 lb4 lb5 lf0 lf1 lf2 ls0 ls1 ls2 ls3 la0 la1 la2
  go_wp2_with fail
  refine wp_region_up (by kernel_rfl) (by kernel_rfl) ?_
  repeat (go_big_quiet_step ((first
    | (go_at_call 53; first
      | ((with_reducible (show Calls _ _ #[_, .int .i64 m, .int .i64 s] _ _)); exact Calls.up_of (N4.out _))
      | ((with_reducible (show Calls _ _ #[_, .int .i64 z, .int .i64 s] _ _)); exact Calls.up_of (N5.out _))
      | ((with_reducible (show Calls _ _ #[_, .int .i64 x, .int .i64 u] _ _)); exact Calls.up_of (N6.out _))
      | ((with_reducible (show Calls _ _ #[_, .int .i64 G, .int .i64 v] _ _)); exact Calls.up_of (N7.out _))
      | ((with_reducible (show Calls _ _ #[_, .int .i64 y, .int .i64 X9] _ _)); exact Calls.up_of (N10.out _))
      | ((with_reducible (show Calls _ _ #[_, .int .i64 p, .int .i64 v] _ _)); exact Calls.up_of (N11.out _)))
    | (go_at_call 57; first
      | ((with_reducible (show Calls _ _ #[_, .int .i64 X6, _] _ _)); exact Calls.up_of (N8.out _))
      | ((with_reducible (show Calls _ _ #[_, .int .i64 X10, _] _ _)); exact Calls.up_of (N12.out _)))
    | (go_at_call 55; first
      | ((with_reducible (show Calls _ _ #[_, .int .i64 r, .int .i64 u] _ _)); exact Calls.up_of (N1.out _))
      | ((with_reducible (show Calls _ _ #[_, .int .i64 c, .int .i64 u] _ _)); exact Calls.up_of (N3.out _))
      | ((with_reducible (show Calls _ _ #[_, .int .i64 s, .int .i64 u] _ _)); exact Calls.up_of (N9.out _))))))
  refine wpQuiet_nil ?_
  rintro _ ⟨⟨w3, hU3⟩, rfl⟩
  try dsimp only
  have HA3 := hid (HA2.out.up hU3)
  have HV3 := hid (HV2.out.up hU3)
  have HF3 := hid (HF2.out.up hU3)
  have HC3 := hid (HC2.out.up hU3)
  have HS3 := hid (HS2.out.up hU3)
  have HD3 := hid (HD2.out.up hU3)
  have HU3 := hid (HU2.out.trans hU3)
  clear hU3 HA2 HV2 HF2 HC2 HS2 HD2 HU2 flc0 flc1 flc2 flc3 flc4 flc5 flb0 flb1 flb2 flb3 flb4 flb5 flf0 flf1 flf2 fls0 fls1 fls2 fls3 fla0 fla1 fla2
  obtain ⟨⟨lc0, lc1, lc2⟩, lc3, lc4, lc5⟩ := HA3.out
  obtain ⟨⟨lb0, lb1, lb2⟩, lb3, lb4, lb5⟩ := HV3.out
  obtain ⟨lf0, lf1, lf2⟩ := HF3.out
  have ls0 := HS3.out.val (i := 0) rfl
  have ls1 := HS3.out.val (i := 1) rfl
  have ls2 := HS3.out.val (i := 2) rfl
  have ls3 := HS3.out.val (i := 3) rfl
  obtain ⟨la0, la1, la2⟩ := HD3.out
  have flc0 := cellF lc0
  have flc1 := cellF lc1
  have flc2 := cellF lc2
  have flc3 := cellF lc3
  have flc4 := cellF lc4
  have flc5 := cellF lc5
  have flb0 := cellF lb0
  have flb1 := cellF lb1
  have flb2 := cellF lb2
  have flb3 := cellF lb3
  have flb4 := cellF lb4
  have flb5 := cellF lb5
  have flf0 := cellF lf0
  have flf1 := cellF lf1
  have flf2 := cellF lf2
  have fls0 := cellF ls0
  have fls1 := cellF ls1
  have fls2 := cellF ls2
  have fls3 := cellF ls3
  have fla0 := cellF la0
  have fla1 := cellF la1
  have fla2 := cellF la2
  clear lc0 lc1 lc2 lc3 lc4 lc5 lb0 lb1 lb2 lb3 lb4 lb5 lf0 lf1 lf2 ls0 ls1 ls2 ls3 la0 la1 la2
  by_cases t0 : p = X4
  case neg =>
    have e0 : (p == X4) = false := by simpa using t0
    have hX : T = false := by rw [HB0.out, e0]; rfl
    subst hX
    clear t0 HB0
    go_wp2_with fail
    refine wp_region_up (by kernel_rfl) (by kernel_rfl) ?_
    try simp only [List.append_eq, List.cons_append, List.nil_append]
    repeat (first
      | (go_big_quiet_want; (refine quiet_load_row 55 _ (by rfl) o3 (by rfl) 55 cs _ HC3.out.from Tryz.underlying55 rfl HCz.out ?_); simp only [Act.put, List.setIfInBounds_toArray, List.set_cons_zero, List.set_cons_succ]; go_big_quiet_on)
      | (go_big_quiet_step ((first
      | (go_at_call 53; first
        | ((with_reducible (show Calls _ _ #[_, .int .i64 m, .int .i64 s] _ _)); exact Calls.up_of (N4.out _))
        | ((with_reducible (show Calls _ _ #[_, .int .i64 z, .int .i64 s] _ _)); exact Calls.up_of (N5.out _))
        | ((with_reducible (show Calls _ _ #[_, .int .i64 x, .int .i64 u] _ _)); exact Calls.up_of (N6.out _))
        | ((with_reducible (show Calls _ _ #[_, .int .i64 G, .int .i64 v] _ _)); exact Calls.up_of (N7.out _))
        | ((with_reducible (show Calls _ _ #[_, .int .i64 y, .int .i64 X9] _ _)); exact Calls.up_of (N10.out _))
        | ((with_reducible (show Calls _ _ #[_, .int .i64 p, .int .i64 v] _ _)); exact Calls.up_of (N11.out _)))
      | (go_at_call 57; first
        | ((with_reducible (show Calls _ _ #[_, .int .i64 X6, _] _ _)); exact Calls.up_of (N8.out _))
        | ((with_reducible (show Calls _ _ #[_, .int .i64 X10, _] _ _)); exact Calls.up_of (N12.out _)))
      | (go_at_call 55; first
        | ((with_reducible (show Calls _ _ #[_, .int .i64 r, .int .i64 u] _ _)); exact Calls.up_of (N1.out _))
        | ((with_reducible (show Calls _ _ #[_, .int .i64 c, .int .i64 u] _ _)); exact Calls.up_of (N3.out _))
        | ((with_reducible (show Calls _ _ #[_, .int .i64 s, .int .i64 u] _ _)); exact Calls.up_of (N9.out _)))
      | (go_at_call 54; exact Calls.up_same (N2.out _))
      | (go_at_call 58; exact Calls.up_of (M1.out _))))))
    refine wpQuiet_nil ?_
    rintro _ ⟨p', rfl⟩
    go_wp2
    go_ret
    exact ⟨rfl, HU3.out.trans p'.up⟩
  have e0 : (p == X4) = true := by simpa using t0
  have HB1 : Hid (T = (sz == X5 && (sa == X8 && (sb == X12 && (sr == X2 && (V == X3)))))) := hid (by rw [HB0.out, e0]; rfl)
  clear t0 HB0
  by_cases t1 : sz = X5
  case neg =>
    have e1 : (sz == X5) = false := by simpa using t1
    have hX : T = false := by rw [HB1.out, e1]; rfl
    subst hX
    clear t1 HB1
    go_wp2_with fail
    refine wp_region_up (by kernel_rfl) (by kernel_rfl) ?_
    try simp only [List.append_eq, List.cons_append, List.nil_append]
    repeat (first
      | (go_big_quiet_want; (refine quiet_load_row 55 _ (by rfl) o3 (by rfl) 55 cs _ HC3.out.from Tryz.underlying55 rfl HCz.out ?_); simp only [Act.put, List.setIfInBounds_toArray, List.set_cons_zero, List.set_cons_succ]; go_big_quiet_on)
      | (go_big_quiet_step ((first
      | (go_at_call 53; first
        | ((with_reducible (show Calls _ _ #[_, .int .i64 m, .int .i64 s] _ _)); exact Calls.up_of (N4.out _))
        | ((with_reducible (show Calls _ _ #[_, .int .i64 z, .int .i64 s] _ _)); exact Calls.up_of (N5.out _))
        | ((with_reducible (show Calls _ _ #[_, .int .i64 x, .int .i64 u] _ _)); exact Calls.up_of (N6.out _))
        | ((with_reducible (show Calls _ _ #[_, .int .i64 G, .int .i64 v] _ _)); exact Calls.up_of (N7.out _))
        | ((with_reducible (show Calls _ _ #[_, .int .i64 y, .int .i64 X9] _ _)); exact Calls.up_of (N10.out _))
        | ((with_reducible (show Calls _ _ #[_, .int .i64 p, .int .i64 v] _ _)); exact Calls.up_of (N11.out _)))
      | (go_at_call 57; first
        | ((with_reducible (show Calls _ _ #[_, .int .i64 X6, _] _ _)); exact Calls.up_of (N8.out _))
        | ((with_reducible (show Calls _ _ #[_, .int .i64 X10, _] _ _)); exact Calls.up_of (N12.out _)))
      | (go_at_call 55; first
        | ((with_reducible (show Calls _ _ #[_, .int .i64 r, .int .i64 u] _ _)); exact Calls.up_of (N1.out _))
        | ((with_reducible (show Calls _ _ #[_, .int .i64 c, .int .i64 u] _ _)); exact Calls.up_of (N3.out _))
        | ((with_reducible (show Calls _ _ #[_, .int .i64 s, .int .i64 u] _ _)); exact Calls.up_of (N9.out _)))
      | (go_at_call 54; exact Calls.up_same (N2.out _))
      | (go_at_call 58; exact Calls.up_of (M1.out _))))))
    refine wpQuiet_nil ?_
    rintro _ ⟨p', rfl⟩
    go_wp2
    go_ret
    exact ⟨rfl, HU3.out.trans p'.up⟩
  have e1 : (sz == X5) = true := by simpa using t1
  have HB2 : Hid (T = (sa == X8 && (sb == X12 && (sr == X2 && (V == X3))))) := hid (by rw [HB1.out, e1]; rfl)
  clear t1 HB1
  by_cases t2 : sa = X8
  case neg =>
    have e2 : (sa == X8) = false := by simpa using t2
    have hX : T = false := by rw [HB2.out, e2]; rfl
    subst hX
    clear t2 HB2
    go_wp2_with fail
    refine wp_region_up (by kernel_rfl) (by kernel_rfl) ?_
    try simp only [List.append_eq, List.cons_append, List.nil_append]
    repeat (first
      | (go_big_quiet_want; (refine quiet_load_row 55 _ (by rfl) o3 (by rfl) 55 cs _ HC3.out.from Tryz.underlying55 rfl HCz.out ?_); simp only [Act.put, List.setIfInBounds_toArray, List.set_cons_zero, List.set_cons_succ]; go_big_quiet_on)
      | (go_big_quiet_step ((first
      | (go_at_call 53; first
        | ((with_reducible (show Calls _ _ #[_, .int .i64 m, .int .i64 s] _ _)); exact Calls.up_of (N4.out _))
        | ((with_reducible (show Calls _ _ #[_, .int .i64 z, .int .i64 s] _ _)); exact Calls.up_of (N5.out _))
        | ((with_reducible (show Calls _ _ #[_, .int .i64 x, .int .i64 u] _ _)); exact Calls.up_of (N6.out _))
        | ((with_reducible (show Calls _ _ #[_, .int .i64 G, .int .i64 v] _ _)); exact Calls.up_of (N7.out _))
        | ((with_reducible (show Calls _ _ #[_, .int .i64 y, .int .i64 X9] _ _)); exact Calls.up_of (N10.out _))
        | ((with_reducible (show Calls _ _ #[_, .int .i64 p, .int .i64 v] _ _)); exact Calls.up_of (N11.out _)))
      | (go_at_call 57; first
        | ((with_reducible (show Calls _ _ #[_, .int .i64 X6, _] _ _)); exact Calls.up_of (N8.out _))
        | ((with_reducible (show Calls _ _ #[_, .int .i64 X10, _] _ _)); exact Calls.up_of (N12.out _)))
      | (go_at_call 55; first
        | ((with_reducible (show Calls _ _ #[_, .int .i64 r, .int .i64 u] _ _)); exact Calls.up_of (N1.out _))
        | ((with_reducible (show Calls _ _ #[_, .int .i64 c, .int .i64 u] _ _)); exact Calls.up_of (N3.out _))
        | ((with_reducible (show Calls _ _ #[_, .int .i64 s, .int .i64 u] _ _)); exact Calls.up_of (N9.out _)))
      | (go_at_call 54; exact Calls.up_same (N2.out _))
      | (go_at_call 58; exact Calls.up_of (M1.out _))))))
    refine wpQuiet_nil ?_
    rintro _ ⟨p', rfl⟩
    go_wp2
    go_ret
    exact ⟨rfl, HU3.out.trans p'.up⟩
  have e2 : (sa == X8) = true := by simpa using t2
  have HB3 : Hid (T = (sb == X12 && (sr == X2 && (V == X3)))) := hid (by rw [HB2.out, e2]; rfl)
  clear t2 HB2
  by_cases t3 : sb = X12
  case neg =>
    have e3 : (sb == X12) = false := by simpa using t3
    have hX : T = false := by rw [HB3.out, e3]; rfl
    subst hX
    clear t3 HB3
    go_wp2_with fail
    refine wp_region_up (by kernel_rfl) (by kernel_rfl) ?_
    try simp only [List.append_eq, List.cons_append, List.nil_append]
    repeat (first
      | (go_big_quiet_want; (refine quiet_load_row 55 _ (by rfl) o3 (by rfl) 55 cs _ HC3.out.from Tryz.underlying55 rfl HCz.out ?_); simp only [Act.put, List.setIfInBounds_toArray, List.set_cons_zero, List.set_cons_succ]; go_big_quiet_on)
      | (go_big_quiet_step ((first
      | (go_at_call 53; first
        | ((with_reducible (show Calls _ _ #[_, .int .i64 m, .int .i64 s] _ _)); exact Calls.up_of (N4.out _))
        | ((with_reducible (show Calls _ _ #[_, .int .i64 z, .int .i64 s] _ _)); exact Calls.up_of (N5.out _))
        | ((with_reducible (show Calls _ _ #[_, .int .i64 x, .int .i64 u] _ _)); exact Calls.up_of (N6.out _))
        | ((with_reducible (show Calls _ _ #[_, .int .i64 G, .int .i64 v] _ _)); exact Calls.up_of (N7.out _))
        | ((with_reducible (show Calls _ _ #[_, .int .i64 y, .int .i64 X9] _ _)); exact Calls.up_of (N10.out _))
        | ((with_reducible (show Calls _ _ #[_, .int .i64 p, .int .i64 v] _ _)); exact Calls.up_of (N11.out _)))
      | (go_at_call 57; first
        | ((with_reducible (show Calls _ _ #[_, .int .i64 X6, _] _ _)); exact Calls.up_of (N8.out _))
        | ((with_reducible (show Calls _ _ #[_, .int .i64 X10, _] _ _)); exact Calls.up_of (N12.out _)))
      | (go_at_call 55; first
        | ((with_reducible (show Calls _ _ #[_, .int .i64 r, .int .i64 u] _ _)); exact Calls.up_of (N1.out _))
        | ((with_reducible (show Calls _ _ #[_, .int .i64 c, .int .i64 u] _ _)); exact Calls.up_of (N3.out _))
        | ((with_reducible (show Calls _ _ #[_, .int .i64 s, .int .i64 u] _ _)); exact Calls.up_of (N9.out _)))
      | (go_at_call 54; exact Calls.up_same (N2.out _))
      | (go_at_call 58; exact Calls.up_of (M1.out _))))))
    refine wpQuiet_nil ?_
    rintro _ ⟨p', rfl⟩
    go_wp2
    go_ret
    exact ⟨rfl, HU3.out.trans p'.up⟩
  have e3 : (sb == X12) = true := by simpa using t3
  have HB4 : Hid (T = (sr == X2 && (V == X3))) := hid (by rw [HB3.out, e3]; rfl)
  clear t3 HB3
  by_cases t4 : sr = X2
  case neg =>
    have e4 : (sr == X2) = false := by simpa using t4
    have hX : T = false := by rw [HB4.out, e4]; rfl
    subst hX
    clear t4 HB4
    go_wp2_with fail
    refine wp_region_up (by kernel_rfl) (by kernel_rfl) ?_
    try simp only [List.append_eq, List.cons_append, List.nil_append]
    repeat (first
      | (go_big_quiet_want; (refine quiet_load_row 55 _ (by rfl) o3 (by rfl) 55 cs _ HC3.out.from Tryz.underlying55 rfl HCz.out ?_); simp only [Act.put, List.setIfInBounds_toArray, List.set_cons_zero, List.set_cons_succ]; go_big_quiet_on)
      | (go_big_quiet_step ((first
      | (go_at_call 53; first
        | ((with_reducible (show Calls _ _ #[_, .int .i64 m, .int .i64 s] _ _)); exact Calls.up_of (N4.out _))
        | ((with_reducible (show Calls _ _ #[_, .int .i64 z, .int .i64 s] _ _)); exact Calls.up_of (N5.out _))
        | ((with_reducible (show Calls _ _ #[_, .int .i64 x, .int .i64 u] _ _)); exact Calls.up_of (N6.out _))
        | ((with_reducible (show Calls _ _ #[_, .int .i64 G, .int .i64 v] _ _)); exact Calls.up_of (N7.out _))
        | ((with_reducible (show Calls _ _ #[_, .int .i64 y, .int .i64 X9] _ _)); exact Calls.up_of (N10.out _))
        | ((with_reducible (show Calls _ _ #[_, .int .i64 p, .int .i64 v] _ _)); exact Calls.up_of (N11.out _)))
      | (go_at_call 57; first
        | ((with_reducible (show Calls _ _ #[_, .int .i64 X6, _] _ _)); exact Calls.up_of (N8.out _))
        | ((with_reducible (show Calls _ _ #[_, .int .i64 X10, _] _ _)); exact Calls.up_of (N12.out _)))
      | (go_at_call 55; first
        | ((with_reducible (show Calls _ _ #[_, .int .i64 r, .int .i64 u] _ _)); exact Calls.up_of (N1.out _))
        | ((with_reducible (show Calls _ _ #[_, .int .i64 c, .int .i64 u] _ _)); exact Calls.up_of (N3.out _))
        | ((with_reducible (show Calls _ _ #[_, .int .i64 s, .int .i64 u] _ _)); exact Calls.up_of (N9.out _)))
      | (go_at_call 54; exact Calls.up_same (N2.out _))
      | (go_at_call 58; exact Calls.up_of (M1.out _))))))
    refine wpQuiet_nil ?_
    rintro _ ⟨p', rfl⟩
    go_wp2
    go_ret
    exact ⟨rfl, HU3.out.trans p'.up⟩
  have e4 : (sr == X2) = true := by simpa using t4
  have HB5 : Hid (T = (V == X3)) := hid (by rw [HB4.out, e4]; rfl)
  clear t4 HB4
  go_wp2_with fail
  refine wp_region_up (by kernel_rfl) (by kernel_rfl) ?_
  try simp only [List.append_eq, List.cons_append, List.nil_append]
  repeat (first
    | (go_big_quiet_want; (refine quiet_load_row 55 _ (by rfl) o3 (by rfl) 55 cs _ HC3.out.from Tryz.underlying55 rfl HCz.out ?_); simp only [Act.put, List.setIfInBounds_toArray, List.set_cons_zero, List.set_cons_succ]; go_big_quiet_on)
    | (go_big_quiet_step ((first
    | (go_at_call 53; first
      | ((with_reducible (show Calls _ _ #[_, .int .i64 m, .int .i64 s] _ _)); exact Calls.up_of (N4.out _))
      | ((with_reducible (show Calls _ _ #[_, .int .i64 z, .int .i64 s] _ _)); exact Calls.up_of (N5.out _))
      | ((with_reducible (show Calls _ _ #[_, .int .i64 x, .int .i64 u] _ _)); exact Calls.up_of (N6.out _))
      | ((with_reducible (show Calls _ _ #[_, .int .i64 G, .int .i64 v] _ _)); exact Calls.up_of (N7.out _))
      | ((with_reducible (show Calls _ _ #[_, .int .i64 y, .int .i64 X9] _ _)); exact Calls.up_of (N10.out _))
      | ((with_reducible (show Calls _ _ #[_, .int .i64 p, .int .i64 v] _ _)); exact Calls.up_of (N11.out _)))
    | (go_at_call 57; first
      | ((with_reducible (show Calls _ _ #[_, .int .i64 X6, _] _ _)); exact Calls.up_of (N8.out _))
      | ((with_reducible (show Calls _ _ #[_, .int .i64 X10, _] _ _)); exact Calls.up_of (N12.out _)))
    | (go_at_call 55; first
      | ((with_reducible (show Calls _ _ #[_, .int .i64 r, .int .i64 u] _ _)); exact Calls.up_of (N1.out _))
      | ((with_reducible (show Calls _ _ #[_, .int .i64 c, .int .i64 u] _ _)); exact Calls.up_of (N3.out _))
      | ((with_reducible (show Calls _ _ #[_, .int .i64 s, .int .i64 u] _ _)); exact Calls.up_of (N9.out _)))
    | (go_at_call 54; exact Calls.up_same (N2.out _))
    | (go_at_call 58; exact Calls.up_of (M1.out _))))))
  refine wpQuiet_nil ?_
  rintro _ ⟨p', rfl⟩
  go_wp2
  go_ret
  exact ⟨by rw [HB5.out]; rfl, HU3.out.trans p'.up⟩
end Go.Proofs.YtoaomjdpiealfaaGreatDoor
namespace Go.Proofs.YtoaomjdpiealfaaGreatDoor
open Go.RowKit Go.Sp
set_option maxHeartbeats 4000000
set_option maxRecDepth 20000

theorem sigScalar_any (P Q G x : Int) (w : World) :
    Calls Tryz.prog 29 #[grp P Q G, .int .i64 x] w fun e w' => e = .returned (.bool (exB Q x)) ∧ Up w w' := by
  have HB : Hid (exB Q x = (decide (0 ≤ x) && decide (x < Q))) := hid rfl
  generalize exB Q x = X at *
  by_cases c1 : x ≥ 0
  case neg =>
    have d1 : decide (x ≥ 0) = false := by simpa using c1
    have hX : X = false := by rw [HB.out, show decide (0 ≤ x) = false from d1]; rfl
    subst hX
    clear c1
    go_enter Tryz.func29, Tryz.ntmps29
    go_wp2
    go_ret
    exact ⟨rfl, (Up.refl w).alloc _⟩
  have d1 : decide (x ≥ 0) = true := by simpa using c1
  have HB2 : Hid (X = decide (x < Q)) := hid (by rw [HB.out, show decide (0 ≤ x) = true from d1]; rfl)
  clear HB
  go_enter Tryz.func29, Tryz.ntmps29
  go_wp2
  go_ret
  exact ⟨by rw [HB2.out]; rfl, (Up.refl w).alloc _⟩

theorem sgen_el {P Q G : Int} (hg : gvB P Q G = true) : elB P Q G = true := by
  have g := gv_iff.1 hg
  have g5 := g.G2
  exact el_iff.2 ⟨by omega, g.GP, g.GQ⟩

/-- The first error of a group and a number that ought to be a scalar. -/
theorem sigKey_any (P Q G x : Int) (w : World) (hP : -9223372036854775808 ≤ P) (hQ : Q ≤ 9223372036854775807) (hT : Tab w) :
    Calls Tryz.prog 9 #[grp P Q G, .int .i64 x] w fun e w' => e = .returned (.tuple #[.int .i64 (orZ (errE (gvB P Q G) (exB Q x)) (pwi P G x)), .int .i64 (errE (gvB P Q G) (exB Q x))]) ∧ Up w w' := by
  have M1 := hid (fun w' (hU : Up w w') => sigCheck_any P Q G (.slice none 0 0) [] w' hP hQ (hT.up hU) (ints_none w'))
  have M2 := hid (fun w' => sigScalar_any P Q G x w')
  have M3 := hid (fun w' (hU : Up w w') (hg : gvB P Q G = true) (hx : exB Q x = true) => gpw_sc (P := P) (a := G) (exB_iff.1 hx).1 (exB_iff.1 hx).2 ▸ gPower_ok P Q G G x w' hQ (hT.up hU) hg (sgen_el hg) (by have := (exB_iff.1 hx).1; omega) (by have := (exB_iff.1 hx).2; omega))
  rw [show chkI P Q G [] = if gvB P Q G = true then 0 else 1 by unfold chkI; simp] at M1
  generalize pwi P G x = V at *
  generalize gvB P Q G = b1 at *
  generalize exB Q x = b2 at *
  clear hT
  go_enter Tryz.func9, Tryz.ntmps9
  go_wp2_with fail
  refine (M1.out _ ((Up.refl w).alloc _)).mono ?_
  rintro e w1 ⟨rfl, hU1⟩
  have HA1 := hid (box_reads rfl hU1)
  have HU1 := hid (((Up.refl w).alloc _).trans hU1)
  clear hU1
  obtain ⟨c0, c1, c2⟩ := HA1.out
  cases b1
  · go_wp2
    go_ret2
    exact ⟨rfl, HU1.out⟩
  go_wp2_with fail
  refine (M2.out _).mono ?_
  rintro e w2 ⟨rfl, hU2⟩
  have HA2 := hid (HA1.out.up hU2)
  have HU2 := hid (HU1.out.trans hU2)
  clear hU2 HA1 HU1 c0 c1 c2
  obtain ⟨c0, c1, c2⟩ := HA2.out
  cases b2
  · go_wp2
    go_ret2
    exact ⟨rfl, HU2.out⟩
  go_wp2_with fail
  refine (M3.out _ HU2.out (by trivial) (by trivial)).mono ?_
  rintro e w3 ⟨rfl, hU3⟩
  have HU3 := hid (HU2.out.trans hU3)
  clear hU3 HA2 HU2 c0 c1 c2
  go_wp2
  go_ret2
  exact ⟨rfl, HU3.out⟩

theorem sigChallenge_bad (P Q G r y E : Int) (v : Value) (w : World) (hP : -9223372036854775808 ≤ P) (hQ : Q ≤ 9223372036854775807) (hT : Tab w) (hE : chkI P Q G [r, y] = E) (h0 : (E != 0) = true) :
    Calls Tryz.prog 35 #[grp P Q G, .int .i64 r, .int .i64 y, v] w fun e w' => e = .returned (.tuple #[.int .i64 0, .int .i64 E]) ∧ Up w w' := by
  have HT := hid hT
  have HE := hid hE
  clear hT hE
  go_enter Tryz.func35, Tryz.ntmps35
  go_wp2_with fail
  refine (sigCheck_any P Q G _ [r, y] _ hP hQ (HT.out.up (((Up.refl w).alloc _).alloc _)) (ints_two (by go_simp) (by go_simp))).mono ?_
  rintro e w1 ⟨rfl, hU1⟩
  rw [HE.out]
  go_wp2
  go_ret2
  exact ⟨rfl, (((Up.refl w).alloc _).alloc _).trans hU1⟩

theorem sigChallenge_long (P Q G r y : Int) (v : Value) (m : List Int) (w : World) (hP : -9223372036854775808 ≤ P) (hQ : Q ≤ 9223372036854775807) (hT : Tab w) (hE : chkI P Q G [r, y] = 0) (hv : SeqAt .u8 w v m) (hl : 16384 < m.length) :
    Calls Tryz.prog 35 #[grp P Q G, .int .i64 r, .int .i64 y, v] w fun e w' => e = .returned (.tuple #[.int .i64 0, .int .i64 5]) ∧ Up w w' := by
  have HT := hid hT
  have HE := hid hE
  obtain ⟨va, vc, rfl, _, _⟩ := hv.shape
  obtain ⟨n, hn⟩ : ∃ n, m.length = n := ⟨_, rfl⟩
  rw [hn] at hl
  rw [hn]
  have dl : decide ((n : Int) > 16384) = true := by simp; omega
  clear hT hE hv hn
  go_enter Tryz.func35, Tryz.ntmps35
  go_wp2_with fail
  refine (sigCheck_any P Q G _ [r, y] _ hP hQ (HT.out.up (((Up.refl w).alloc _).alloc _)) (ints_two (by go_simp) (by go_simp))).mono ?_
  rintro e w1 ⟨rfl, hU1⟩
  rw [HE.out]
  go_wp2
  go_ret2
  exact ⟨rfl, (((Up.refl w).alloc _).alloc _).trans hU1⟩

/-- The first error of a challenge's arguments. -/
def sigE (P Q G r y : Int) (n : Nat) : Int := if chkI P Q G [r, y] = 0 then (if n ≤ 16384 then 0 else 5) else chkI P Q G [r, y]
theorem sigChallenge_any (P Q G r y : Int) (v : Value) (m : List Int) (w : World) (hP : -9223372036854775808 ≤ P) (hQ : Q ≤ 9223372036854775807) (hT : Tab w) (hS : TabS w) (hv : SeqAt .u8 w v m) (hm : ∀ x ∈ m, 0 ≤ x ∧ x ≤ 255) :
    Calls Tryz.prog 35 #[grp P Q G, .int .i64 r, .int .i64 y, v] w fun e w' => e = .returned (.tuple #[.int .i64 (orZ (sigE P Q G r y m.length) (sigC P Q G r y m)), .int .i64 (sigE P Q G r y m.length)]) ∧ Up w w' := by
  by_cases h : chkI P Q G [r, y] = 0
  · obtain ⟨hg, hx⟩ := chk_cases h
    by_cases hl : m.length ≤ 16384
    · rw [show sigE P Q G r y m.length = 0 by rw [sigE, if_pos h, if_pos hl]]
      exact sigChallenge_ok P Q G r y v m w hT hS hg (hx r (by simp)) (hx y (by simp)) hv hl hm
    · rw [show sigE P Q G r y m.length = 5 by rw [sigE, if_pos h, if_neg hl]]
      exact sigChallenge_long P Q G r y v m w hP hQ hT h hv (by omega)
  · rw [show sigE P Q G r y m.length = chkI P Q G [r, y] by rw [sigE, if_neg h]]
    rw [show orZ (chkI P Q G [r, y]) (sigC P Q G r y m) = 0 by rw [orZ, if_neg h]]
    exact sigChallenge_bad P Q G r y _ v w hP hQ hT rfl (by simp [h])

/-- The commitment that fits. -/
def frgV (P Q G y c s : Int) : Int := pwi P G s * gpw P Q y (-c) % P
def frgE (P Q G y c s : Int) : Int := errE (gvB P Q G) (elB P Q y && (exB Q c && exB Q s))
theorem frgV_el {P Q G y c s : Int} (hg : gvB P Q G = true) (hy : elB P Q y = true) : elB P Q (frgV P Q G y c s) = true := by
  have g := gv_iff.1 hg
  have g2 := g.P4
  have g3 := g.Q3
  exact el_mul (by omega) (by omega) (el_pw (by omega) (by omega) (sgen_el hg) _) (gpw_el (by omega) (by omega) hy _)

theorem sigForge_any (P Q G y c s : Int) (w : World) (hP : -9223372036854775808 ≤ P) (hQ : Q ≤ 9223372036854775807) (hT : Tab w) :
    Calls Tryz.prog 91 #[grp P Q G, .int .i64 y, .int .i64 c, .int .i64 s] w fun e w' => e = .returned (.tuple #[.int .i64 (orZ (frgE P Q G y c s) (frgV P Q G y c s)), .int .i64 (frgE P Q G y c s)]) ∧ Up w w' := by
  have M1 := hid (fun w' (v' : Value) (hU : Up w w') (hv' : IntsAt w' v' [y]) => sigCheck_any P Q G v' [y] w' hP hQ (hT.up hU) hv')
  have M2 := hid (fun w' => sigScalar_any P Q G c w')
  have M3 := hid (fun w' => sigScalar_any P Q G s w')
  have M4 := hid (fun w' (hU : Up w w') (hg : gvB P Q G = true) (hx : exB Q s = true) => gpw_sc (P := P) (a := G) (exB_iff.1 hx).1 (exB_iff.1 hx).2 ▸ gPower_ok P Q G G s w' hQ (hT.up hU) hg (sgen_el hg) (by have := (exB_iff.1 hx).1; omega) (by have := (exB_iff.1 hx).2; omega))
  have M5 := hid (fun w' (hU : Up w w') (hg : gvB P Q G = true) (hy : elB P Q y = true) (hx : exB Q c = true) => gPower_ok P Q G y (-c) w' hQ (hT.up hU) hg hy (by have := (exB_iff.1 hx).2; omega) (by have := (exB_iff.1 hx).1; omega))
  have M6 := hid (fun w' (hU : Up w w') (hg : gvB P Q G = true) (hy : elB P Q y = true) => gMul_ok P Q G (pwi P G s) (gpw P Q y (-c)) w' hQ (hT.up hU) hg (by have g := gv_iff.1 hg; have g2 := g.P4; have g3 := g.Q3; exact el_pw (by omega) (by omega) (sgen_el hg) _) (by have g := gv_iff.1 hg; have g2 := g.P4; have g3 := g.Q3; exact gpw_el (by omega) (by omega) hy _))
  have HW : Hid (exB Q c = true → IntKind.i64.wrap (-c) = -c) := hid (fun h => by have h1 := exB_iff.1 h; rw [IntKind.wrap_i64]; omega)
  rw [show chkI P Q G [y] = errE (gvB P Q G) (elB P Q y) by unfold chkI errE; simp] at M1
  unfold frgE frgV
  generalize pwi P G s = V1 at *
  generalize gpw P Q y (-c) = V2 at *
  generalize V1 * V2 % P = V at *
  generalize gvB P Q G = b1 at *
  generalize elB P Q y = b2 at *
  generalize exB Q c = b3 at *
  generalize exB Q s = b4 at *
  clear hT
  obtain ⟨o, ho⟩ : ∃ o, w.heap.size = o := ⟨_, rfl⟩
  have HO := hid ho
  clear ho
  go_enter Tryz.func91, Tryz.ntmps91
  go_wp2_with fail
  refine (M1.out _ _ (((Up.refl w).alloc _).alloc _) (ints_one (by go_simp))).mono ?_
  rintro e w1 ⟨rfl, hU1⟩
  have HA1 := hid ((((nums_three (w := w) (t := 23) HO.out).up ((Up.refl _).alloc _)).up hU1))
  have HU1 := hid ((((Up.refl w).alloc _).alloc _).trans hU1)
  rw [HO.out]
  clear hU1
  obtain ⟨c0, c1, c2⟩ := HA1.out
  cases b1
  · go_wp2
    go_ret2
    exact ⟨rfl, HU1.out⟩
  cases b2
  · go_wp2
    go_ret2
    exact ⟨rfl, HU1.out⟩
  go_wp2_with fail
  refine (M2.out _).mono ?_
  rintro e w2 ⟨rfl, hU2⟩
  have HA2 := hid (HA1.out.up hU2)
  have HU2 := hid (HU1.out.trans hU2)
  clear hU2 HA1 HU1 c0 c1 c2
  obtain ⟨c0, c1, c2⟩ := HA2.out
  cases b3
  · go_wp2
    go_ret2
    exact ⟨rfl, HU2.out⟩
  have hw := HW.out rfl
  go_wp2_with fail
  refine (M3.out _).mono ?_
  rintro e w3 ⟨rfl, hU3⟩
  have HA3 := hid (HA2.out.up hU3)
  have HU3 := hid (HU2.out.trans hU3)
  clear hU3 HA2 HU2 c0 c1 c2
  obtain ⟨c0, c1, c2⟩ := HA3.out
  cases b4
  · go_wp2
    go_ret2
    exact ⟨rfl, HU3.out⟩
  go_wp2_with fail
  refine (M4.out _ HU3.out (by trivial) (by trivial)).mono ?_
  rintro e w4 ⟨rfl, hU4⟩
  have HA4 := hid (HA3.out.up hU4)
  have HU4 := hid (HU3.out.trans hU4)
  clear hU4 HA3 HU3 c0 c1 c2
  obtain ⟨c0, c1, c2⟩ := HA4.out
  go_wp2_with fail
  try rw [hw]
  refine (M5.out _ HU4.out (by trivial) (by trivial) (by trivial)).mono ?_
  rintro e w5 ⟨rfl, hU5⟩
  have HA5 := hid (HA4.out.up hU5)
  have HU5 := hid (HU4.out.trans hU5)
  clear hU5 HA4 HU4 c0 c1 c2
  obtain ⟨c0, c1, c2⟩ := HA5.out
  go_wp2_with fail
  refine (M6.out _ HU5.out (by trivial) (by trivial)).mono ?_
  rintro e w6 ⟨rfl, hU6⟩
  have HU6 := hid (HU5.out.trans hU6)
  clear hU6 HA5 HU5 c0 c1 c2
  go_wp2
  go_ret2
  exact ⟨rfl, HU6.out⟩
end Go.Proofs.YtoaomjdpiealfaaGreatDoor
namespace Go.Proofs.YtoaomjdpiealfaaGreatDoor
open Go.RowKit Go.Sp
set_option maxHeartbeats 4000000
set_option maxRecDepth 20000

def SigAt (w : World) (b : Nat) (x y : Int) : Prop := w.cell? ⟨b, 0, none⟩ = some (.int .i64 x) ∧ w.cell? ⟨b, 1, none⟩ = some (.int .i64 y)
theorem SigAt.up {w w' : World} {b : Nat} {x y : Int} (h : SigAt w b x y) (hU : Up w w') : SigAt w' b x y :=
  have hl := cell_lt h.1
  ⟨by rw [hU.cell hl]; exact h.1, by rw [hU.cell hl]; exact h.2⟩
theorem nums_two {w : World} {r : Nat} {x y : Int} {t : TypeId} (hr : w.heap.size = r) : SigAt (w.alloc (.cells #[.int .i64 x, .int .i64 y] t)) r x y := by
  have hb := alloc_at w (.cells #[.int .i64 x, .int .i64 y] t) r hr.symm
  exact ⟨by simp [World.cell?, hb], by simp [World.cell?, hb]⟩

def verS (P Q G y : Int) (m : List Int) (c s : Int) : Bool := decide (frgE P Q G y c s = 0) && (decide (m.length ≤ 16384) && decide (sigC P Q G (frgV P Q G y c s) y m = c))
theorem frgE_ok {P Q G y c s : Int} (h : frgE P Q G y c s = 0) : gvB P Q G = true ∧ elB P Q y = true ∧ exB Q c = true ∧ exB Q s = true := by
  unfold frgE errE at h
  by_cases h1 : gvB P Q G = true
  · rw [if_pos h1] at h
    by_cases h2 : (elB P Q y && (exB Q c && exB Q s)) = true
    · simp at h2
      exact ⟨h1, h2.1, h2.2.1, h2.2.2⟩
    · rw [if_neg h2] at h; cases h
  · rw [if_neg h1] at h; cases h
theorem frgE_sig {P Q G y c s : Int} {n : Nat} (h : frgE P Q G y c s = 0) : sigE P Q G (frgV P Q G y c s) y n = if n ≤ 16384 then 0 else 5 := by
  obtain ⟨h1, h2, _, _⟩ := frgE_ok h
  unfold sigE
  rw [if_pos (chkI_ok h1 (by simp [frgV_el h1 h2, h2]))]

theorem sigVerify_any (P Q G y c s : Int) (v : Value) (m : List Int) (w : World) (hP : -9223372036854775808 ≤ P) (hQ : Q ≤ 9223372036854775807) (hT : Tab w) (hS : TabS w) (hv : SeqAt .u8 w v m) (hm : ∀ x ∈ m, 0 ≤ x ∧ x ≤ 255) :
    Calls Tryz.prog 68 #[grp P Q G, .int .i64 y, v, .agg #[.int .i64 c, .int .i64 s]] w fun e w' => e = .returned (.bool (verS P Q G y m c s)) ∧ Up w w' := by
  have M1 := hid (fun w' (hU : Up w w') => sigForge_any P Q G y c s w' hP hQ (hT.up hU))
  have M2 := hid (fun w' (hU : Up w w') (r : Int) => sigChallenge_any P Q G r y v m w' hP hQ (hT.up hU) (hS.up hU) (hv.up hU) hm)
  have HE := hid (fun h : frgE P Q G y c s = 0 => frgE_sig (n := m.length) h)
  have HB : Hid (verS P Q G y m c s = (decide (frgE P Q G y c s = 0) && (decide (m.length ≤ 16384) && decide (sigC P Q G (frgV P Q G y c s) y m = c)))) := hid rfl
  generalize verS P Q G y m c s = T at *
  generalize frgV P Q G y c s = V at *
  generalize frgE P Q G y c s = E at *
  replace M2 := hid (fun w' hU => M2.out w' hU V)
  obtain ⟨va, vc, rfl, _, _⟩ := hv.shape
  clear hT hS hv hm
  obtain ⟨o, ho⟩ : ∃ o, w.heap.size = o := ⟨_, rfl⟩
  have HO := hid ho
  clear ho
  go_enter Tryz.func68, Tryz.ntmps68
  go_wp2_with fail
  refine (M1.out _ (((Up.refl w).alloc _).alloc _)).mono ?_
  rintro e w1 ⟨rfl, hU1⟩
  have HA1 := hid ((((nums_three (w := w) (t := 23) HO.out).up ((Up.refl _).alloc _)).up hU1))
  have HS1 := hid ((nums_two (r := o + 1) (t := 36) (x := c) (y := s) (by have := HO.out; simp; omega)).up hU1)
  have HU1 := hid ((((Up.refl w).alloc _).alloc _).trans hU1)
  rw [HO.out]
  clear hU1
  obtain ⟨c0, c1, c2⟩ := HA1.out
  obtain ⟨d0, d1⟩ := HS1.out
  by_cases hE : E = 0
  case neg =>
    have hE' : (E != 0) = true := by simpa using hE
    have hX : T = false := by rw [HB.out, show decide (E = 0) = false by simpa using hE]; rfl
    subst hX
    clear hE
    go_wp2
    go_ret
    exact ⟨rfl, HU1.out⟩
  subst hE
  have hE2 := HE.out rfl
  rw [hE2] at M2
  have HB2 : Hid (T = (decide (m.length ≤ 16384) && decide (sigC P Q G V y m = c))) := hid (by rw [HB.out]; rfl)
  clear HB HE hE2
  generalize sigC P Q G V y m = D at *
  rw [show orZ 0 V = V from rfl]
  go_wp2_with fail
  refine (M2.out _ HU1.out).mono ?_
  rintro e w2 ⟨rfl, hU2⟩
  have HS2 := hid (HS1.out.up hU2)
  have HU2 := hid (HU1.out.trans hU2)
  clear hU2 HS1 HU1 HA1 c0 c1 c2 d0 d1
  obtain ⟨d0, d1⟩ := HS2.out
  by_cases hl : m.length ≤ 16384
  case neg =>
    have hX : T = false := by rw [HB2.out, show decide (m.length ≤ 16384) = false by simpa using hl]; rfl
    subst hX
    rw [if_neg hl]
    clear hl
    go_wp2
    go_ret
    exact ⟨rfl, HU2.out⟩
  have hX : T = decide (D = c) := by rw [HB2.out, show decide (m.length ≤ 16384) = true by simpa using hl]; rfl
  subst hX
  rw [if_pos hl, show orZ 0 D = D from rfl]
  clear hl HB2
  go_wp2
  go_ret
  refine ⟨?_, HU2.out⟩
  exact congrArg (fun b => Ending.returned (.bool b)) (by rw [Bool.eq_iff_iff]; simp)
end Go.Proofs.YtoaomjdpiealfaaGreatDoor
namespace Go.Proofs.YtoaomjdpiealfaaGreatDoor
open Go.RowKit Go.Sp
set_option maxHeartbeats 4000000
set_option maxRecDepth 20000

theorem r22Challenge_ok (P Q G r y : Int) (v : Value) (m : List Int) (w : World) (q0 : 2 ≤ Q) (q1 : Q < 2305843009213693952) (hv : SeqAt .u8 w v m) (hl : m.length ≤ 16384) (hm : ∀ x ∈ m, 0 ≤ x ∧ x ≤ 255) :
    Calls Tryz.prog 134 #[grp P Q G, .int .i64 r, .int .i64 y, v] w fun e w' => e = .returned (.int .i64 (sigC P Q G r y m)) ∧ Up w w' := by
  have HV := hid (sigC_lab P Q G r y m)
  generalize sigC P Q G r y m = V at *
  have HDb : Hid (Byt (shaB m)) := hid (shaB_range m)
  have MSUM := fun (v' : Value) (w' : World) (hv' : SeqAt .u8 w' v' m) => rSum_any v' m w' hv' (by omega) hm
  generalize shaB m = D at *
  have M1 := hid (fun w' => r8New_ok lbS w' labS)
  have B0 := trNew_byt (txt lbS)
  generalize trNew (txt lbS) = T0 at *
  have M2 := hid (fun w' (v' : Value) (hv' : IntsAt w' v' [P, Q, G]) => r8Ints_ok T0 0 lbG v' [P, Q, G] w' B0 (by omega) (by omega) labG hv' (by simp))
  have B1 := absB_byt T0 (txt lbG) (encInts [P, Q, G])
  generalize absB T0 (txt lbG) (encInts [P, Q, G]) = T1 at *
  have M3 := hid (fun w' (v' : Value) (hv' : IntsAt w' v' [y]) => r8Ints_ok T1 1 lbK v' [y] w' B1 (by omega) (by omega) labK hv' (by simp))
  have B2 := absB_byt T1 (txt lbK) (encInts [y])
  generalize absB T1 (txt lbK) (encInts [y]) = T2 at *
  have M4 := hid (fun w' (v' : Value) (hv' : IntsAt w' v' [r]) => r8Ints_ok T2 2 lbR v' [r] w' B2 (by omega) (by omega) labR hv' (by simp))
  have B3 := absB_byt T2 (txt lbR) (encInts [r])
  generalize absB T2 (txt lbR) (encInts [r]) = T3 at *
  have M5 := hid (fun w' (v' : Value) (hv' : SeqAt .u8 w' v' m) => MSUM v' w' hv')
  have M7 := hid (fun w' (v' : Value) (hv' : SeqAt .u8 w' v' (hList D)) => r8Absorb_ok T3 3 lbM 2 0 v' nilS (encBytes (hList D)) w' B3 (by omega) (by omega) labM (itm_bytes hv' (by rw [hList_length]; omega) (hList_bytes HDb.out) 6) (by rw [encBytes_length, hList_length]; omega) (encBytes_byt (hList_bytes HDb.out)))
  have B4 := absB_byt T3 (txt lbM) (encBytes (hList D))
  generalize absB T3 (txt lbM) (encBytes (hList D)) = T4 at *
  have M8 := hid (fun w' => r8Challenge_ok T4 4 lbC Q w' B4 (by omega) (by omega) labC q0 q1)
  rw [← HV.out] at M8
  rw [show (3 : Int) + 1 = 4 from rfl] at M7
  obtain ⟨va, vc, rfl, _, _⟩ := hv.shape
  have HX := hid hv
  clear B0 B1 B2 B3 B4 MSUM HV hv
  obtain ⟨o, ho⟩ : ∃ o, w.heap.size = o := ⟨_, rfl⟩
  have HO := hid ho
  clear ho
  go_enter Tryz.func134, Tryz.ntmps134
  go_wp2_with fail
  refine (M1.out _).mono ?_
  rintro e w1 ⟨rfl, hU1⟩
  have HA1 := hid ((nums_three (w := w) (t := 23) HO.out).up hU1)
  have HU1 := hid (((Up.refl w).alloc _).trans hU1)
  rw [HO.out]
  clear hU1
  obtain ⟨g, hg⟩ : ∃ g, w1.heap.size = g := ⟨_, rfl⟩
  have HGg := hid hg
  clear hg
  obtain ⟨c0, c1, c2⟩ := HA1.out
  have l0 := cell_lt c0
  unfold drw at M2 M3 M4 M7 M8 ⊢
  rw [show (0 : Int) + 1 = 1 from rfl] at M2
  rw [show (1 : Int) + 1 = 2 from rfl] at M3
  rw [show (2 : Int) + 1 = 3 from rfl] at M4
  go_wp2_with (first
    | (refine wpList_store_rowTo rfl 127 _ _ rfl rfl _ _ rfl rfl 127 _ (heap_alloc_new _ _) (sizeTr _ _) (by rw [drwA_size]; rfl) (drwA_one _ _) ?_; rw [World.setRow_alloc_new])
    | (refine wpList_load_row rfl 127 _ rfl w1.heap.size rfl 127 (drwA T0 0) (0, 0) _ (Blk.new rfl rfl) Tryz.underlying127 rfl (sizeTr _ _) ?_))
  refine (M2.out _ _ (ints_three (by go_simp) (by go_simp) (by go_simp))).mono ?_
  rintro e w2 ⟨rfl, hU2⟩
  have HT2 := hid (((Blk.new (w := w1) (t := 127) (cs := drwA T0 0) HGg.out rfl).alloc _).up hU2)
  have hU2 := (((Up.refl w1).alloc _).alloc _).trans hU2
  have HA2 := hid (HA1.out.up hU2)
  have HU2 := hid (HU1.out.trans hU2)
  rw [HGg.out]
  have hog : o < g := by have := HGg.out; omega
  have hwg : w.heap.size ≤ g := by have := HO.out; omega
  clear hU2 HA1 HU1 c0 c1 c2 l0
  have l2 := HT2.out.lt
  go_wp2_with (first
    | (refine wpList_store_rowTo rfl 127 _ _ rfl rfl g (drwA T1 1) rfl rfl 127 (drwA T0 0) HT2.out (sizeTr _ _) (by rw [drwA_size, drwA_size]) (drwA_one _ _) ?_)
    | (refine wpList_load_row rfl 127 _ rfl g rfl 127 (drwA T1 1) (0, 0) _ (HT2.out.row _) Tryz.underlying127 rfl (sizeTr _ _) ?_))
  refine (M3.out _ _ (ints_one (by go_simp))).mono ?_
  rintro e w3 ⟨rfl, hU3⟩
  have hU3 := ((Up.refl (w2.setRow g (drwA T1 1))).alloc _).trans hU3
  have HT3 := hid (Blk.up (HT2.out.row (drwA T1 1)) hU3)
  have HA3 := hid ((grp_row HA2.out (by omega : o ≠ g)).up hU3)
  have HU3 := hid ((HU2.out.setRow hwg (drwA T1 1)).trans hU3)
  clear hU3 HT2 HA2 HU2 l2
  have l3 := HT3.out.lt
  go_wp2_with (first
    | (refine wpList_store_rowTo rfl 127 _ _ rfl rfl g (drwA T2 2) rfl rfl 127 (drwA T1 1) HT3.out (sizeTr _ _) (by rw [drwA_size, drwA_size]) (drwA_one _ _) ?_)
    | (refine wpList_load_row rfl 127 _ rfl g rfl 127 (drwA T2 2) (0, 0) _ (HT3.out.row _) Tryz.underlying127 rfl (sizeTr _ _) ?_))
  refine (M4.out _ _ (ints_one (by go_simp))).mono ?_
  rintro e w4 ⟨rfl, hU4⟩
  have hU4 := ((Up.refl (w3.setRow g (drwA T2 2))).alloc _).trans hU4
  have HT4 := hid (Blk.up (HT3.out.row (drwA T2 2)) hU4)
  have HA4 := hid ((grp_row HA3.out (by omega : o ≠ g)).up hU4)
  have HU4 := hid ((HU3.out.setRow hwg (drwA T2 2)).trans hU4)
  clear hU4 HT3 HA3 HU3 l3
  have l4 := HT4.out.lt
  go_wp2_with (first
    | (refine wpList_store_rowTo rfl 127 _ _ rfl rfl g (drwA T3 3) rfl rfl 127 (drwA T2 2) HT4.out (sizeTr _ _) (by rw [drwA_size, drwA_size]) (drwA_one _ _) ?_)
    | (refine wpList_load_row rfl 127 _ rfl g rfl 127 (drwA T3 3) (0, 0) _ (HT4.out.row _) Tryz.underlying127 rfl (sizeTr _ _) ?_))
  have HT5 := hid (HT4.out.row (drwA T3 3))
  have HA5 : Hid (GrpAt (w4.setRow g (drwA T3 3)) o P Q G) := hid (grp_row HA4.out (by omega))
  have HU5 := hid (HU4.out.setRow hwg (drwA T3 3))
  generalize w4.setRow g (drwA T3 3) = w5 at *
  clear HT4 HA4 HU4 l4
  refine region_E (fun _ => True) 10 (by kernel_rfl) trivial fun _ => ?_
  have hT0 := Blk.up HT5.out (Up.refl w5).drew
  have hA0 := GrpAt.up HA5.out (Up.refl w5).drew
  have hX0 := HX.out.up HU5.out.drew
  have hU0 := HU5.out.drew
  generalize w5.drew = v0 at *
  refine anyE_takeA (i := 1) (v := ?_) 42 rfl rfl (by kernel_rfl) (by decide) (fun _ _ _ h => h) (by kernel_rfl) (by kernel_rfl) (.inl ⟨by rfl, fun u hu => ?_⟩) trivial ?_
  rotate_left
  · (go_simp; first | done | with_reducible rfl)
  try simp only [Act.put, List.setIfInBounds_toArray, List.set_cons_zero, List.set_cons_succ]
  refine anyE_two 0 2 (by kernel_rfl) ⟨_, rfl, rfl, fun K hK => ?g0x0⟩ ⟨_, rfl, rfl, fun K hK => ?g2x0⟩
  case' g0x0 =>
    refine wp_load_row 127 _ rfl g rfl 127 (drwA T3 3) (0, 0) _ hT0 Tryz.underlying127 rfl (sizeTr _ _) ?_
    refine hK.out _ _ (.inr trivial) ?_
    clear hK
    try simp only [Act.put, List.setIfInBounds_toArray]
    refine anyE_one (i := 2) rfl (by kernel_rfl) rfl (fun K hK => ?_)
    go_simp
    refine (M5.out _ _ hX0).mono ?_
    rintro e v1 ⟨rfl, hup⟩
    dsimp only
    have hA1 := GrpAt.up hA0 hup
    have hT1 := hT0.up hup
    have hU1 := hU0.trans hup
    have hX1 := hX0.up hup
    refine hK.out _ _ (.inr trivial) ?_
    clear hK hup
    try simp only [Act.put, List.setIfInBounds_toArray, List.set_cons_zero, List.set_cons_succ]
    refine anyE_one (i := 3) rfl (by kernel_rfl) rfl (fun K hK => ?_)
    go_simp
    refine (rHJoin_any nilS [] D _ ⟨none, 0, rfl, by simp, by omega, fun _ => rfl, fun h => absurd rfl h⟩ (by simp)).mono ?_
    rintro e v2 ⟨vj, rfl, hO, hup⟩
    dsimp only
    rw [List.nil_append] at hO
    have hJ2 := hO.seq
    obtain ⟨aj, cj, rfl, _, _⟩ := hO.shape
    have hA2 := GrpAt.up hA1 hup
    have hT2 := hT1.up hup
    have hU2 := hU1.trans hup
    have hX2 := hX1.up hup
    refine hK.out _ _ (.inr trivial) ?_
    clear hK hup hO
    try simp only [Act.put, List.setIfInBounds_toArray, List.set_cons_zero, List.set_cons_succ]
    refine anyE_takeA (i := 4) (v := ?_) 45 rfl rfl (by kernel_rfl) (by decide) (fun _ _ _ h => h) (by kernel_rfl) (by kernel_rfl) (.inl ⟨by rfl, fun u hu => ?_⟩) trivial ?_
    rotate_left
    · (go_simp; first | done | with_reducible rfl)
    try simp only [Act.put, List.setIfInBounds_toArray, List.set_cons_zero, List.set_cons_succ]
    refine anyE_one (i := 5) rfl (by kernel_rfl) rfl (fun K hK => ?_)
    go_simp
    refine (M7.out _ _ hJ2).mono ?_
    rintro e v3 ⟨rfl, hup⟩
    dsimp only
    have hA3 := GrpAt.up hA2 hup
    have hT3 := hT2.up hup
    have hU3 := hU2.trans hup
    have hX3 := hX2.up hup
    refine hK.out _ _ (.inr trivial) ?_
    clear hK hup
    try simp only [Act.put, List.setIfInBounds_toArray, List.set_cons_zero, List.set_cons_succ]
    refine anyE_takeA (i := 6) (v := ?_) 40 rfl rfl (by kernel_rfl) (by decide) (fun _ _ _ h => h) (by kernel_rfl) (by kernel_rfl) (.inl ⟨by rfl, fun u hu => ?_⟩) trivial ?_
    rotate_left
    · (go_simp; first | done | with_reducible rfl)
    try simp only [Act.put, List.setIfInBounds_toArray, List.set_cons_zero, List.set_cons_succ]
    refine anyE_takeA (i := 7) (v := ?_) 47 rfl rfl (by kernel_rfl) (by decide) (fun _ _ _ h => h) (by kernel_rfl) (by kernel_rfl) (.inl ⟨by rfl, fun u hu => ?_⟩) trivial ?_
    rotate_left
    · (go_simp; first | done | with_reducible rfl)
    try simp only [Act.put, List.setIfInBounds_toArray, List.set_cons_zero, List.set_cons_succ]
    refine anyE_takeA (i := 8) (v := ?_) 48 rfl rfl (by kernel_rfl) (by decide) (fun _ _ _ h => h) (by kernel_rfl) (by kernel_rfl) (.inl ⟨by rfl, fun u hu => ?_⟩) trivial ?_
    rotate_left
    · (go_simp; first | done | with_reducible rfl)
    try simp only [Act.put, List.setIfInBounds_toArray, List.set_cons_zero, List.set_cons_succ]
    refine anyE_one (i := 9) rfl (by kernel_rfl) rfl (fun K hK => ?_)
    refine op_store_row 127 _ _ rfl rfl g (drwA T4 4) rfl rfl 127 (drwA T3 3) hT3 (sizeTr _ _) (by rw [drwA_size, drwA_size]) (drwA_one _ _) ?_
    refine hK.out _ _ (.inr trivial) (anyE_done (by kernel_rfl) ?_ _)
    clear hK
    have HT9 := hid (hT3.row (drwA T4 4))
    have HA9 : Hid (GrpAt (v3.setRow g (drwA T4 4)) o P Q G) := hid (grp_row hA3 (by omega))
    have HU9 := hid (hU3.setRow hwg (drwA T4 4))
    generalize v3.setRow g (drwA T4 4) = w9 at *
    clear hT3 hA3 hU3
  case' g2x0 =>
    go_simp
    refine (M5.out _ _ hX0).mono ?_
    rintro e v1 ⟨rfl, hup⟩
    dsimp only
    have hA1 := GrpAt.up hA0 hup
    have hT1 := hT0.up hup
    have hU1 := hU0.trans hup
    have hX1 := hX0.up hup
    refine hK.out _ _ (.inr trivial) ?_
    clear hK hup
    try simp only [Act.put, List.setIfInBounds_toArray, List.set_cons_zero, List.set_cons_succ]
    refine anyE_two 0 3 (by kernel_rfl) ⟨_, rfl, rfl, fun K hK => ?g0x1⟩ ⟨_, rfl, rfl, fun K hK => ?g3x1⟩
    case' g0x1 =>
      refine wp_load_row 127 _ rfl g rfl 127 (drwA T3 3) (0, 0) _ hT1 Tryz.underlying127 rfl (sizeTr _ _) ?_
      refine hK.out _ _ (.inr trivial) ?_
      clear hK
      try simp only [Act.put, List.setIfInBounds_toArray]
      refine anyE_one (i := 3) rfl (by kernel_rfl) rfl (fun K hK => ?_)
      go_simp
      refine (rHJoin_any nilS [] D _ ⟨none, 0, rfl, by simp, by omega, fun _ => rfl, fun h => absurd rfl h⟩ (by simp)).mono ?_
      rintro e v2 ⟨vj, rfl, hO, hup⟩
      dsimp only
      rw [List.nil_append] at hO
      have hJ2 := hO.seq
      obtain ⟨aj, cj, rfl, _, _⟩ := hO.shape
      have hA2 := GrpAt.up hA1 hup
      have hT2 := hT1.up hup
      have hU2 := hU1.trans hup
      have hX2 := hX1.up hup
      refine hK.out _ _ (.inr trivial) ?_
      clear hK hup hO
      try simp only [Act.put, List.setIfInBounds_toArray, List.set_cons_zero, List.set_cons_succ]
      refine anyE_takeA (i := 4) (v := ?_) 45 rfl rfl (by kernel_rfl) (by decide) (fun _ _ _ h => h) (by kernel_rfl) (by kernel_rfl) (.inl ⟨by rfl, fun u hu => ?_⟩) trivial ?_
      rotate_left
      · (go_simp; first | done | with_reducible rfl)
      try simp only [Act.put, List.setIfInBounds_toArray, List.set_cons_zero, List.set_cons_succ]
      refine anyE_one (i := 5) rfl (by kernel_rfl) rfl (fun K hK => ?_)
      go_simp
      refine (M7.out _ _ hJ2).mono ?_
      rintro e v3 ⟨rfl, hup⟩
      dsimp only
      have hA3 := GrpAt.up hA2 hup
      have hT3 := hT2.up hup
      have hU3 := hU2.trans hup
      have hX3 := hX2.up hup
      refine hK.out _ _ (.inr trivial) ?_
      clear hK hup
      try simp only [Act.put, List.setIfInBounds_toArray, List.set_cons_zero, List.set_cons_succ]
      refine anyE_takeA (i := 6) (v := ?_) 40 rfl rfl (by kernel_rfl) (by decide) (fun _ _ _ h => h) (by kernel_rfl) (by kernel_rfl) (.inl ⟨by rfl, fun u hu => ?_⟩) trivial ?_
      rotate_left
      · (go_simp; first | done | with_reducible rfl)
      try simp only [Act.put, List.setIfInBounds_toArray, List.set_cons_zero, List.set_cons_succ]
      refine anyE_takeA (i := 7) (v := ?_) 47 rfl rfl (by kernel_rfl) (by decide) (fun _ _ _ h => h) (by kernel_rfl) (by kernel_rfl) (.inl ⟨by rfl, fun u hu => ?_⟩) trivial ?_
      rotate_left
      · (go_simp; first | done | with_reducible rfl)
      try simp only [Act.put, List.setIfInBounds_toArray, List.set_cons_zero, List.set_cons_succ]
      refine anyE_takeA (i := 8) (v := ?_) 48 rfl rfl (by kernel_rfl) (by decide) (fun _ _ _ h => h) (by kernel_rfl) (by kernel_rfl) (.inl ⟨by rfl, fun u hu => ?_⟩) trivial ?_
      rotate_left
      · (go_simp; first | done | with_reducible rfl)
      try simp only [Act.put, List.setIfInBounds_toArray, List.set_cons_zero, List.set_cons_succ]
      refine anyE_one (i := 9) rfl (by kernel_rfl) rfl (fun K hK => ?_)
      refine op_store_row 127 _ _ rfl rfl g (drwA T4 4) rfl rfl 127 (drwA T3 3) hT3 (sizeTr _ _) (by rw [drwA_size, drwA_size]) (drwA_one _ _) ?_
      refine hK.out _ _ (.inr trivial) (anyE_done (by kernel_rfl) ?_ _)
      clear hK
      have HT9 := hid (hT3.row (drwA T4 4))
      have HA9 : Hid (GrpAt (v3.setRow g (drwA T4 4)) o P Q G) := hid (grp_row hA3 (by omega))
      have HU9 := hid (hU3.setRow hwg (drwA T4 4))
      generalize v3.setRow g (drwA T4 4) = w9 at *
      clear hT3 hA3 hU3
    case' g3x1 =>
      go_simp
      refine (rHJoin_any nilS [] D _ ⟨none, 0, rfl, by simp, by omega, fun _ => rfl, fun h => absurd rfl h⟩ (by simp)).mono ?_
      rintro e v2 ⟨vj, rfl, hO, hup⟩
      dsimp only
      rw [List.nil_append] at hO
      have hJ2 := hO.seq
      obtain ⟨aj, cj, rfl, _, _⟩ := hO.shape
      have hA2 := GrpAt.up hA1 hup
      have hT2 := hT1.up hup
      have hU2 := hU1.trans hup
      have hX2 := hX1.up hup
      refine hK.out _ _ (.inr trivial) ?_
      clear hK hup hO
      try simp only [Act.put, List.setIfInBounds_toArray, List.set_cons_zero, List.set_cons_succ]
      refine anyE_takeA (i := 4) (v := ?_) 45 rfl rfl (by kernel_rfl) (by decide) (fun _ _ _ h => h) (by kernel_rfl) (by kernel_rfl) (.inl ⟨by rfl, fun u hu => ?_⟩) trivial ?_
      rotate_left
      · (go_simp; first | done | with_reducible rfl)
      try simp only [Act.put, List.setIfInBounds_toArray, List.set_cons_zero, List.set_cons_succ]
      refine anyE_one (i := 0) rfl (by kernel_rfl) rfl (fun K hK => ?_)
      refine wp_load_row 127 _ rfl g rfl 127 (drwA T3 3) (0, 0) _ hT2 Tryz.underlying127 rfl (sizeTr _ _) ?_
      refine hK.out _ _ (.inr trivial) ?_
      clear hK
      try simp only [Act.put, List.setIfInBounds_toArray]
      refine anyE_one (i := 5) rfl (by kernel_rfl) rfl (fun K hK => ?_)
      go_simp
      refine (M7.out _ _ hJ2).mono ?_
      rintro e v3 ⟨rfl, hup⟩
      dsimp only
      have hT3 := hT2.up hup
      have hA3 := GrpAt.up hA2 hup
      have hJ3 := hJ2.up hup
      have hU3 := hU2.trans hup
      have hX3 := hX2.up hup
      refine hK.out _ _ (.inr trivial) ?_
      clear hK hup
      try simp only [Act.put, List.setIfInBounds_toArray, List.set_cons_zero, List.set_cons_succ]
      refine anyE_takeA (i := 6) (v := ?_) 40 rfl rfl (by kernel_rfl) (by decide) (fun _ _ _ h => h) (by kernel_rfl) (by kernel_rfl) (.inl ⟨by rfl, fun u hu => ?_⟩) trivial ?_
      rotate_left
      · (go_simp; first | done | with_reducible rfl)
      try simp only [Act.put, List.setIfInBounds_toArray, List.set_cons_zero, List.set_cons_succ]
      refine anyE_takeA (i := 7) (v := ?_) 47 rfl rfl (by kernel_rfl) (by decide) (fun _ _ _ h => h) (by kernel_rfl) (by kernel_rfl) (.inl ⟨by rfl, fun u hu => ?_⟩) trivial ?_
      rotate_left
      · (go_simp; first | done | with_reducible rfl)
      try simp only [Act.put, List.setIfInBounds_toArray, List.set_cons_zero, List.set_cons_succ]
      refine anyE_takeA (i := 8) (v := ?_) 48 rfl rfl (by kernel_rfl) (by decide) (fun _ _ _ h => h) (by kernel_rfl) (by kernel_rfl) (.inl ⟨by rfl, fun u hu => ?_⟩) trivial ?_
      rotate_left
      · (go_simp; first | done | with_reducible rfl)
      try simp only [Act.put, List.setIfInBounds_toArray, List.set_cons_zero, List.set_cons_succ]
      refine anyE_one (i := 9) rfl (by kernel_rfl) rfl (fun K hK => ?_)
      refine op_store_row 127 _ _ rfl rfl g (drwA T4 4) rfl rfl 127 (drwA T3 3) hT3 (sizeTr _ _) (by rw [drwA_size, drwA_size]) (drwA_one _ _) ?_
      refine hK.out _ _ (.inr trivial) (anyE_done (by kernel_rfl) ?_ _)
      clear hK
      have HT9 := hid (hT3.row (drwA T4 4))
      have HA9 : Hid (GrpAt (v3.setRow g (drwA T4 4)) o P Q G) := hid (grp_row hA3 (by omega))
      have HU9 := hid (hU3.setRow hwg (drwA T4 4))
      generalize v3.setRow g (drwA T4 4) = w9 at *
      clear hT3 hA3 hU3
  all_goals (
    obtain ⟨c0, c1, c2⟩ := HA9.out
    go_wp2_with (refine wpList_load_row rfl 127 _ rfl g rfl 127 (drwA T4 4) (0, 0) _ HT9.out Tryz.underlying127 rfl (sizeTr _ _) ?_)
    refine (M8.out _).mono ?_
    rintro e w10 ⟨⟨T, rfl, hTs, hT1⟩, hU10⟩
    have hU11 := hid ((HU9.out.trans hU10).alloc (.cells T 127))
    go_wp2_with (refine wpList_store_rowTo rfl 127 _ _ rfl rfl _ T rfl rfl 127 _ (heap_alloc_new _ _) (by rw [hTs]; kernel_rfl) (by rw [hTs]; rfl) hT1 ?_; rw [World.setRow_alloc_new])
    go_ret
    exact ⟨rfl, hU11.out⟩)
end Go.Proofs.YtoaomjdpiealfaaGreatDoor
