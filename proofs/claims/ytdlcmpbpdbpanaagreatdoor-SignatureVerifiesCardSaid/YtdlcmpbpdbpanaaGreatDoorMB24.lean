/- Package unlink: which factors explain. Package unlink: Explains. The reference of package unlink: which factors explain. Package signature: Key, the errors of Challenge, Forge. -/
import Derived.Test.YtdlcmpbpdbpanaaGreatDoorMB23
import Derived.Test.YtdlcmpbpdbpanaaGreatDoorMB22
import Derived.Test.YtdlcmpbpdbpanaaGreatDoorMB20
namespace Go.Proofs.YtdlcmpbpdbpanaaGreatDoor
open Go.RowKit Go.Sp
set_option maxHeartbeats 4000000
set_option maxRecDepth 20000

/-- Do factors explain a signature with a challenge by a view? -/
def fitB (P Q G vm vz va vb vc vr s u v p c sz sa sb sr : Int) : Bool :=
  facB Q s u v && (sr == (vr * u % Q + v) % Q && (c == vc * u % Q && (p == pwi P vm s && (sz == pwi P vz s && (sa == pwi P va u * pwi P G v % P && sb == pwi P vb (s * u % Q) * pwi P p v % P)))))

theorem explains_any (P Q G vm vz va vb vc vr s u v p c sz sa sb sr : Int) (w : World) (g1 : P < 2305843009213693952) (g2 : 2 ≤ P) (g4 : Q < 2305843009213693952) (g5 : 0 ≤ G) (g6 : G < P)
    (m0 : 0 ≤ vm) (m1 : vm < P) (z0 : 0 ≤ vz) (z1 : vz < P) (a0 : 0 ≤ va) (a1 : va < P) (b0 : 0 ≤ vb) (b1 : vb < P) (c0 : 0 ≤ vc) (c1 : vc < Q) (r0 : 0 ≤ vr) (r1 : vr < Q) (p0 : 0 ≤ p) (p1 : p < P) :
    Calls Tryz.prog 89 #[grp P Q G, vw vm vz va vb vc vr, .agg #[.int .i64 s, .int .i64 u, .int .i64 v], .int .i64 p, .int .i64 c, sgn sz sa sb sr] w fun e w' => e = .returned (.bool (fitB P Q G vm vz va vb vc vr s u v p c sz sa sb sr)) ∧ Up w w' := by
  have HB : Hid (fitB P Q G vm vz va vb vc vr s u v p c sz sa sb sr = (facB Q s u v && (sr == (vr * u % Q + v) % Q && (c == vc * u % Q && (p == pwi P vm s && (sz == pwi P vz s && (sa == pwi P va u * pwi P G v % P && sb == pwi P vb (s * u % Q) * pwi P p v % P))))))) := hid rfl
  generalize fitB P Q G vm vz va vb vc vr s u v p c sz sa sb sr = T at *
  have HSc := hid (fun w' => fScalar_any P Q G v w')
  obtain ⟨o, ho⟩ : ∃ o, w.heap.size = o := ⟨_, rfl⟩
  have HO := hid ho
  obtain ⟨o1, ho1⟩ : ∃ o1, o + 1 = o1 := ⟨_, rfl⟩
  have HO1 := hid ho1
  obtain ⟨o2, ho2⟩ : ∃ o2, o1 + 1 = o2 := ⟨_, rfl⟩
  have HO2 := hid ho2
  obtain ⟨o3, ho3⟩ : ∃ o3, o2 + 1 = o3 := ⟨_, rfl⟩
  have HO3 := hid ho3
  clear ho ho1 ho2 ho3
  by_cases q0 : s < 1
  case pos =>
    have d0 : decide (s < 1) = true := by simpa using q0
    have hX : T = false := by rw [HB.out, show facB Q s u v = false by simp [facB, nzB]; omega]; rfl
    subst hX
    clear q0
    go_enter Tryz.func89, Tryz.ntmps89
    go_wp2
    go_ret
    exact ⟨rfl, ((((Up.refl w).alloc _).alloc _).alloc _).alloc _⟩
  have d0 : decide (s < 1) = false := by simpa using q0
  by_cases q1 : s ≥ Q
  case pos =>
    have d1 : decide (s ≥ Q) = true := by simpa using q1
    have hX : T = false := by rw [HB.out, show facB Q s u v = false by simp [facB, nzB]; omega]; rfl
    subst hX
    clear q0 q1
    go_enter Tryz.func89, Tryz.ntmps89
    go_wp2
    go_ret
    exact ⟨rfl, ((((Up.refl w).alloc _).alloc _).alloc _).alloc _⟩
  have d1 : decide (s ≥ Q) = false := by simpa using q1
  by_cases q2 : u < 1
  case pos =>
    have d2 : decide (u < 1) = true := by simpa using q2
    have hX : T = false := by rw [HB.out, show facB Q s u v = false by simp [facB, nzB]; omega]; rfl
    subst hX
    clear q0 q1 q2
    go_enter Tryz.func89, Tryz.ntmps89
    go_wp2
    go_ret
    exact ⟨rfl, ((((Up.refl w).alloc _).alloc _).alloc _).alloc _⟩
  have d2 : decide (u < 1) = false := by simpa using q2
  by_cases q3 : u ≥ Q
  case pos =>
    have d3 : decide (u ≥ Q) = true := by simpa using q3
    have hX : T = false := by rw [HB.out, show facB Q s u v = false by simp [facB, nzB]; omega]; rfl
    subst hX
    clear q0 q1 q2 q3
    go_enter Tryz.func89, Tryz.ntmps89
    go_wp2
    go_ret
    exact ⟨rfl, ((((Up.refl w).alloc _).alloc _).alloc _).alloc _⟩
  have d3 : decide (u ≥ Q) = false := by simpa using q3
  go_enter Tryz.func89, Tryz.ntmps89
  go_wp2_with fail
  refine (HSc.out _).mono ?_
  rintro e w1 ⟨rfl, hU1⟩
  have HD1 := hid (((nums_three (w := w) (t := 125) HO.out).up ((((Up.refl _).alloc _).alloc _).alloc _)).up hU1)
  have HV1 := hid (((nums_six (r := o1) (t := 29) (by have := HO.out; have := HO1.out; have := HO2.out; have := HO3.out; simp; omega)).up (((Up.refl _).alloc _).alloc _)).up hU1)
  have HF1 := hid (((nums_three (r := o2) (t := 39) (by have := HO.out; have := HO1.out; have := HO2.out; have := HO3.out; simp; omega)).up ((Up.refl _).alloc _)).up hU1)
  have HS1 := hid (((Blk.new (g := o3) (t := 33) (by have := HO.out; have := HO1.out; have := HO2.out; have := HO3.out; simp; omega) rfl)).up hU1)
  have HU1 := hid ((((((Up.refl w).alloc _).alloc _).alloc _).alloc _).trans hU1)
  clear hU1
  rw [HO.out, HO1.out, HO2.out, HO3.out]
  obtain ⟨la0, la1, la2⟩ := HD1.out
  obtain ⟨⟨lb0, lb1, lb2⟩, lb3, lb4, lb5⟩ := HV1.out
  obtain ⟨lf0, lf1, lf2⟩ := HF1.out
  have ls0 := HS1.out.val (i := 0) rfl
  have ls1 := HS1.out.val (i := 1) rfl
  have ls2 := HS1.out.val (i := 2) rfl
  have ls3 := HS1.out.val (i := 3) rfl
  by_cases hv : exB Q v = true
  case neg =>
    have hv' : exB Q v = false := by simpa using hv
    have hX : T = false := by rw [HB.out, show facB Q s u v = false by simp [facB, hv']]; rfl
    subst hX
    rw [hv']
    clear hv hv'
    go_wp2
    go_ret
    exact ⟨rfl, HU1.out⟩
  obtain ⟨v0, v1⟩ := exB_iff.1 hv
  have HB0 : Hid (T = (sr == (vr * u % Q + v) % Q && (c == vc * u % Q && (p == pwi P vm s && (sz == pwi P vz s && (sa == pwi P va u * pwi P G v % P && sb == pwi P vb (s * u % Q) * pwi P p v % P)))))) := hid (by rw [HB.out, show facB Q s u v = true by simp [facB, nzB, hv]; omega]; rfl)
  rw [hv]
  have r2 := Int.emod_nonneg (vr * u) (show Q ≠ 0 by omega)
  have r3 := Int.emod_lt_of_pos (vr * u) (show 0 < Q by omega)
  have s2 := Int.emod_nonneg (s * u) (show Q ≠ 0 by omega)
  have s3 := Int.emod_lt_of_pos (s * u) (show 0 < Q by omega)
  have M1 := hid (fun w' => fMul_ok P Q G vr u w' r0 r1 (by omega) (by omega) g4)
  have M2 := hid (fun w' => Add_ok (vr * u % Q) v Q w' r2 r3 v0 v1 g4)
  have M3 := hid (fun w' => fMul_ok P Q G vc u w' c0 c1 (by omega) (by omega) g4)
  have M4 := hid (fun w' => fPow_ok P Q G vm s w' m0 m1 (by omega) (by omega) g1)
  have M5 := hid (fun w' => fPow_ok P Q G vz s w' z0 z1 (by omega) (by omega) g1)
  have M6 := hid (fun w' => fPow_ok P Q G va u w' a0 a1 (by omega) (by omega) g1)
  have M7 := hid (fun w' => fPow_ok P Q G G v w' g5 g6 (by omega) (by omega) g1)
  obtain ⟨x0, x1⟩ := pwi_range (P := P) (a := va) (e := u) (by omega)
  obtain ⟨x2, x3⟩ := pwi_range (P := P) (a := G) (e := v) (by omega)
  have M8 := hid (fun w' => fTimes_ok P Q G (pwi P va u) (pwi P G v) w' x0 x1 x2 x3 g1)
  have M9 := hid (fun w' => fMul_ok P Q G s u w' (by omega) (by omega) (by omega) (by omega) g4)
  have M10 := hid (fun w' => fPow_ok P Q G vb (s * u % Q) w' b0 b1 s2 (by omega) g1)
  have M11 := hid (fun w' => fPow_ok P Q G p v w' p0 p1 (by omega) (by omega) g1)
  obtain ⟨y0, y1⟩ := pwi_range (P := P) (a := vb) (e := s * u % Q) (by omega)
  obtain ⟨y2, y3⟩ := pwi_range (P := P) (a := p) (e := v) (by omega)
  have M12 := hid (fun w' => fTimes_ok P Q G (pwi P vb (s * u % Q)) (pwi P p v) w' y0 y1 y2 y3 g1)
  generalize pwi P vb (s * u % Q) = X10 at *
  generalize pwi P p v = X11 at *
  generalize X10 * X11 % P = X12 at *
  generalize pwi P va u = X6 at *
  generalize pwi P G v = X7 at *
  generalize X6 * X7 % P = X8 at *
  generalize pwi P vm s = X4 at *
  generalize pwi P vz s = X5 at *
  generalize s * u % Q = X9 at *
  generalize vr * u % Q = X1 at *
  generalize (X1 + v) % Q = X2 at *
  generalize vc * u % Q = X3 at *
  clear hv q0 q1 q2 q3 v0 v1 r2 r3 s2 s3 x0 x1 x2 x3 y0 y1 y2 y3 m0 m1 z0 z1 a0 a1 b0 b1 c0 c1 r0 r1 p0 p1 g1 g2 g4 g5 g6 HSc HB
  have fla0 := cellF la0
  have fla1 := cellF la1
  have fla2 := cellF la2
  have flb0 := cellF lb0
  have flb1 := cellF lb1
  have flb2 := cellF lb2
  have flb3 := cellF lb3
  have flb4 := cellF lb4
  have flb5 := cellF lb5
  have flf0 := cellF lf0
  have flf1 := cellF lf1
  have flf2 := cellF lf2
  have fls0 := cellF ls0
  have fls1 := cellF ls1
  have fls2 := cellF ls2
  have fls3 := cellF ls3
  clear la0 la1 la2 lb0 lb1 lb2 lb3 lb4 lb5 lf0 lf1 lf2 ls0 ls1 ls2 ls3
  go_wp2_with fail
  refine wp_region_up (by kernel_rfl) (by kernel_rfl) ?_
  repeat (go_big_quiet_step ((first
    | (go_at_call 93; exact Calls.up_of (M1.out _))
    | (go_at_call 153; exact Calls.up_of (M2.out _)))))
  refine wpQuiet_nil ?_
  rintro _ ⟨⟨w2, hU2⟩, rfl⟩
  try dsimp only
  have HD2 := hid (HD1.out.up hU2)
  have HV2 := hid (HV1.out.up hU2)
  have HF2 := hid (HF1.out.up hU2)
  have HS2 := hid (HS1.out.up hU2)
  have HU2 := hid (HU1.out.trans hU2)
  clear hU2 HD1 HV1 HF1 HS1 HU1 fla0 fla1 fla2 flb0 flb1 flb2 flb3 flb4 flb5 flf0 flf1 flf2 fls0 fls1 fls2 fls3
  obtain ⟨la0, la1, la2⟩ := HD2.out
  obtain ⟨⟨lb0, lb1, lb2⟩, lb3, lb4, lb5⟩ := HV2.out
  obtain ⟨lf0, lf1, lf2⟩ := HF2.out
  have ls0 := HS2.out.val (i := 0) rfl
  have ls1 := HS2.out.val (i := 1) rfl
  have ls2 := HS2.out.val (i := 2) rfl
  have ls3 := HS2.out.val (i := 3) rfl
  have fla0 := cellF la0
  have fla1 := cellF la1
  have fla2 := cellF la2
  have flb0 := cellF lb0
  have flb1 := cellF lb1
  have flb2 := cellF lb2
  have flb3 := cellF lb3
  have flb4 := cellF lb4
  have flb5 := cellF lb5
  have flf0 := cellF lf0
  have flf1 := cellF lf1
  have flf2 := cellF lf2
  have fls0 := cellF ls0
  have fls1 := cellF ls1
  have fls2 := cellF ls2
  have fls3 := cellF ls3
  clear la0 la1 la2 lb0 lb1 lb2 lb3 lb4 lb5 lf0 lf1 lf2 ls0 ls1 ls2 ls3
  by_cases t0 : sr = X2
  case neg =>
    have e0 : (sr == X2) = false := by simpa using t0
    have hX : T = false := by rw [HB0.out, e0]; rfl
    subst hX
    clear t0 HB0
    go_wp2_with fail
    refine wp_region_up (by kernel_rfl) (by kernel_rfl) ?_
    try simp only [List.append_eq, List.cons_append, List.nil_append]
    repeat (go_big_quiet_step ((first
      | (go_at_call 93; first
        | ((with_reducible (show Calls _ _ #[_, .int .i64 vc, .int .i64 u] _ _)); exact Calls.up_of (M3.out _))
        | ((with_reducible (show Calls _ _ #[_, .int .i64 s, .int .i64 u] _ _)); exact Calls.up_of (M9.out _)))
      | (go_at_call 154; first
        | ((with_reducible (show Calls _ _ #[_, .int .i64 vm, .int .i64 s] _ _)); exact Calls.up_of (M4.out _))
        | ((with_reducible (show Calls _ _ #[_, .int .i64 vz, .int .i64 s] _ _)); exact Calls.up_of (M5.out _))
        | ((with_reducible (show Calls _ _ #[_, .int .i64 va, .int .i64 u] _ _)); exact Calls.up_of (M6.out _))
        | ((with_reducible (show Calls _ _ #[_, .int .i64 G, .int .i64 v] _ _)); exact Calls.up_of (M7.out _))
        | ((with_reducible (show Calls _ _ #[_, .int .i64 vb, .int .i64 X9] _ _)); exact Calls.up_of (M10.out _))
        | ((with_reducible (show Calls _ _ #[_, .int .i64 p, .int .i64 v] _ _)); exact Calls.up_of (M11.out _)))
      | (go_at_call 155; first
        | ((with_reducible (show Calls _ _ #[_, .int .i64 X6, _] _ _)); exact Calls.up_of (M8.out _))
        | ((with_reducible (show Calls _ _ #[_, .int .i64 X10, _] _ _)); exact Calls.up_of (M12.out _))))))
    refine wpQuiet_nil ?_
    rintro _ ⟨p', rfl⟩
    go_wp2
    go_ret
    exact ⟨rfl, HU2.out.trans p'.up⟩
  have e0 : (sr == X2) = true := by simpa using t0
  have HB1 : Hid (T = (c == X3 && (p == X4 && (sz == X5 && (sa == X8 && (sb == X12)))))) := hid (by rw [HB0.out, e0]; rfl)
  clear t0 HB0
  by_cases t1 : c = X3
  case neg =>
    have e1 : (c == X3) = false := by simpa using t1
    have hX : T = false := by rw [HB1.out, e1]; rfl
    subst hX
    clear t1 HB1
    go_wp2_with fail
    refine wp_region_up (by kernel_rfl) (by kernel_rfl) ?_
    try simp only [List.append_eq, List.cons_append, List.nil_append]
    repeat (go_big_quiet_step ((first
      | (go_at_call 93; first
        | ((with_reducible (show Calls _ _ #[_, .int .i64 vc, .int .i64 u] _ _)); exact Calls.up_of (M3.out _))
        | ((with_reducible (show Calls _ _ #[_, .int .i64 s, .int .i64 u] _ _)); exact Calls.up_of (M9.out _)))
      | (go_at_call 154; first
        | ((with_reducible (show Calls _ _ #[_, .int .i64 vm, .int .i64 s] _ _)); exact Calls.up_of (M4.out _))
        | ((with_reducible (show Calls _ _ #[_, .int .i64 vz, .int .i64 s] _ _)); exact Calls.up_of (M5.out _))
        | ((with_reducible (show Calls _ _ #[_, .int .i64 va, .int .i64 u] _ _)); exact Calls.up_of (M6.out _))
        | ((with_reducible (show Calls _ _ #[_, .int .i64 G, .int .i64 v] _ _)); exact Calls.up_of (M7.out _))
        | ((with_reducible (show Calls _ _ #[_, .int .i64 vb, .int .i64 X9] _ _)); exact Calls.up_of (M10.out _))
        | ((with_reducible (show Calls _ _ #[_, .int .i64 p, .int .i64 v] _ _)); exact Calls.up_of (M11.out _)))
      | (go_at_call 155; first
        | ((with_reducible (show Calls _ _ #[_, .int .i64 X6, _] _ _)); exact Calls.up_of (M8.out _))
        | ((with_reducible (show Calls _ _ #[_, .int .i64 X10, _] _ _)); exact Calls.up_of (M12.out _))))))
    refine wpQuiet_nil ?_
    rintro _ ⟨p', rfl⟩
    go_wp2
    go_ret
    exact ⟨rfl, HU2.out.trans p'.up⟩
  have e1 : (c == X3) = true := by simpa using t1
  have HB2 : Hid (T = (p == X4 && (sz == X5 && (sa == X8 && (sb == X12))))) := hid (by rw [HB1.out, e1]; rfl)
  clear t1 HB1
  by_cases t2 : p = X4
  case neg =>
    have e2 : (p == X4) = false := by simpa using t2
    have hX : T = false := by rw [HB2.out, e2]; rfl
    subst hX
    clear t2 HB2
    go_wp2_with fail
    refine wp_region_up (by kernel_rfl) (by kernel_rfl) ?_
    try simp only [List.append_eq, List.cons_append, List.nil_append]
    repeat (go_big_quiet_step ((first
      | (go_at_call 93; first
        | ((with_reducible (show Calls _ _ #[_, .int .i64 vc, .int .i64 u] _ _)); exact Calls.up_of (M3.out _))
        | ((with_reducible (show Calls _ _ #[_, .int .i64 s, .int .i64 u] _ _)); exact Calls.up_of (M9.out _)))
      | (go_at_call 154; first
        | ((with_reducible (show Calls _ _ #[_, .int .i64 vm, .int .i64 s] _ _)); exact Calls.up_of (M4.out _))
        | ((with_reducible (show Calls _ _ #[_, .int .i64 vz, .int .i64 s] _ _)); exact Calls.up_of (M5.out _))
        | ((with_reducible (show Calls _ _ #[_, .int .i64 va, .int .i64 u] _ _)); exact Calls.up_of (M6.out _))
        | ((with_reducible (show Calls _ _ #[_, .int .i64 G, .int .i64 v] _ _)); exact Calls.up_of (M7.out _))
        | ((with_reducible (show Calls _ _ #[_, .int .i64 vb, .int .i64 X9] _ _)); exact Calls.up_of (M10.out _))
        | ((with_reducible (show Calls _ _ #[_, .int .i64 p, .int .i64 v] _ _)); exact Calls.up_of (M11.out _)))
      | (go_at_call 155; first
        | ((with_reducible (show Calls _ _ #[_, .int .i64 X6, _] _ _)); exact Calls.up_of (M8.out _))
        | ((with_reducible (show Calls _ _ #[_, .int .i64 X10, _] _ _)); exact Calls.up_of (M12.out _))))))
    refine wpQuiet_nil ?_
    rintro _ ⟨p', rfl⟩
    go_wp2
    go_ret
    exact ⟨rfl, HU2.out.trans p'.up⟩
  have e2 : (p == X4) = true := by simpa using t2
  have HB3 : Hid (T = (sz == X5 && (sa == X8 && (sb == X12)))) := hid (by rw [HB2.out, e2]; rfl)
  clear t2 HB2
  by_cases t3 : sz = X5
  case neg =>
    have e3 : (sz == X5) = false := by simpa using t3
    have hX : T = false := by rw [HB3.out, e3]; rfl
    subst hX
    clear t3 HB3
    go_wp2_with fail
    refine wp_region_up (by kernel_rfl) (by kernel_rfl) ?_
    try simp only [List.append_eq, List.cons_append, List.nil_append]
    repeat (go_big_quiet_step ((first
      | (go_at_call 93; first
        | ((with_reducible (show Calls _ _ #[_, .int .i64 vc, .int .i64 u] _ _)); exact Calls.up_of (M3.out _))
        | ((with_reducible (show Calls _ _ #[_, .int .i64 s, .int .i64 u] _ _)); exact Calls.up_of (M9.out _)))
      | (go_at_call 154; first
        | ((with_reducible (show Calls _ _ #[_, .int .i64 vm, .int .i64 s] _ _)); exact Calls.up_of (M4.out _))
        | ((with_reducible (show Calls _ _ #[_, .int .i64 vz, .int .i64 s] _ _)); exact Calls.up_of (M5.out _))
        | ((with_reducible (show Calls _ _ #[_, .int .i64 va, .int .i64 u] _ _)); exact Calls.up_of (M6.out _))
        | ((with_reducible (show Calls _ _ #[_, .int .i64 G, .int .i64 v] _ _)); exact Calls.up_of (M7.out _))
        | ((with_reducible (show Calls _ _ #[_, .int .i64 vb, .int .i64 X9] _ _)); exact Calls.up_of (M10.out _))
        | ((with_reducible (show Calls _ _ #[_, .int .i64 p, .int .i64 v] _ _)); exact Calls.up_of (M11.out _)))
      | (go_at_call 155; first
        | ((with_reducible (show Calls _ _ #[_, .int .i64 X6, _] _ _)); exact Calls.up_of (M8.out _))
        | ((with_reducible (show Calls _ _ #[_, .int .i64 X10, _] _ _)); exact Calls.up_of (M12.out _))))))
    refine wpQuiet_nil ?_
    rintro _ ⟨p', rfl⟩
    go_wp2
    go_ret
    exact ⟨rfl, HU2.out.trans p'.up⟩
  have e3 : (sz == X5) = true := by simpa using t3
  have HB4 : Hid (T = (sa == X8 && (sb == X12))) := hid (by rw [HB3.out, e3]; rfl)
  clear t3 HB3
  by_cases t4 : sa = X8
  case neg =>
    have e4 : (sa == X8) = false := by simpa using t4
    have hX : T = false := by rw [HB4.out, e4]; rfl
    subst hX
    clear t4 HB4
    go_wp2_with fail
    refine wp_region_up (by kernel_rfl) (by kernel_rfl) ?_
    try simp only [List.append_eq, List.cons_append, List.nil_append]
    repeat (go_big_quiet_step ((first
      | (go_at_call 93; first
        | ((with_reducible (show Calls _ _ #[_, .int .i64 vc, .int .i64 u] _ _)); exact Calls.up_of (M3.out _))
        | ((with_reducible (show Calls _ _ #[_, .int .i64 s, .int .i64 u] _ _)); exact Calls.up_of (M9.out _)))
      | (go_at_call 154; first
        | ((with_reducible (show Calls _ _ #[_, .int .i64 vm, .int .i64 s] _ _)); exact Calls.up_of (M4.out _))
        | ((with_reducible (show Calls _ _ #[_, .int .i64 vz, .int .i64 s] _ _)); exact Calls.up_of (M5.out _))
        | ((with_reducible (show Calls _ _ #[_, .int .i64 va, .int .i64 u] _ _)); exact Calls.up_of (M6.out _))
        | ((with_reducible (show Calls _ _ #[_, .int .i64 G, .int .i64 v] _ _)); exact Calls.up_of (M7.out _))
        | ((with_reducible (show Calls _ _ #[_, .int .i64 vb, .int .i64 X9] _ _)); exact Calls.up_of (M10.out _))
        | ((with_reducible (show Calls _ _ #[_, .int .i64 p, .int .i64 v] _ _)); exact Calls.up_of (M11.out _)))
      | (go_at_call 155; first
        | ((with_reducible (show Calls _ _ #[_, .int .i64 X6, _] _ _)); exact Calls.up_of (M8.out _))
        | ((with_reducible (show Calls _ _ #[_, .int .i64 X10, _] _ _)); exact Calls.up_of (M12.out _))))))
    refine wpQuiet_nil ?_
    rintro _ ⟨p', rfl⟩
    go_wp2
    go_ret
    exact ⟨rfl, HU2.out.trans p'.up⟩
  have e4 : (sa == X8) = true := by simpa using t4
  have HB5 : Hid (T = (sb == X12)) := hid (by rw [HB4.out, e4]; rfl)
  clear t4 HB4
  go_wp2_with fail
  refine wp_region_up (by kernel_rfl) (by kernel_rfl) ?_
  try simp only [List.append_eq, List.cons_append, List.nil_append]
  repeat (go_big_quiet_step ((first
    | (go_at_call 93; first
      | ((with_reducible (show Calls _ _ #[_, .int .i64 vc, .int .i64 u] _ _)); exact Calls.up_of (M3.out _))
      | ((with_reducible (show Calls _ _ #[_, .int .i64 s, .int .i64 u] _ _)); exact Calls.up_of (M9.out _)))
    | (go_at_call 154; first
      | ((with_reducible (show Calls _ _ #[_, .int .i64 vm, .int .i64 s] _ _)); exact Calls.up_of (M4.out _))
      | ((with_reducible (show Calls _ _ #[_, .int .i64 vz, .int .i64 s] _ _)); exact Calls.up_of (M5.out _))
      | ((with_reducible (show Calls _ _ #[_, .int .i64 va, .int .i64 u] _ _)); exact Calls.up_of (M6.out _))
      | ((with_reducible (show Calls _ _ #[_, .int .i64 G, .int .i64 v] _ _)); exact Calls.up_of (M7.out _))
      | ((with_reducible (show Calls _ _ #[_, .int .i64 vb, .int .i64 X9] _ _)); exact Calls.up_of (M10.out _))
      | ((with_reducible (show Calls _ _ #[_, .int .i64 p, .int .i64 v] _ _)); exact Calls.up_of (M11.out _)))
    | (go_at_call 155; first
      | ((with_reducible (show Calls _ _ #[_, .int .i64 X6, _] _ _)); exact Calls.up_of (M8.out _))
      | ((with_reducible (show Calls _ _ #[_, .int .i64 X10, _] _ _)); exact Calls.up_of (M12.out _))))))
  refine wpQuiet_nil ?_
  rintro _ ⟨p', rfl⟩
  go_wp2
  go_ret
  exact ⟨by rw [HB5.out]; rfl, HU2.out.trans p'.up⟩
end Go.Proofs.YtdlcmpbpdbpanaaGreatDoor
namespace Go.Proofs.YtdlcmpbpdbpanaaGreatDoor
open Go.RowKit Go.Sp
set_option maxHeartbeats 4000000
set_option maxRecDepth 20000

/-- What a view and a signature without faults are. -/
theorem flt_ok {P Q G A B C k1 k2 k3 m z x y c r p : Int} {root : Nat → Int} {sz sa sb sr : Int} (h : fltE (kvB P Q G A B C k1 k2 k3) (cvB P Q G A B C k1 k2 k3 m z x y c r) (verB P Q G A B C k1 k2 k3 p root sz sa sb sr) = 0) :
    bvB P Q G A B C = true ∧ (gnB P Q m = true ∧ elB P Q z = true ∧ elB P Q x = true ∧ elB P Q y = true ∧ nzB Q c = true ∧ exB Q r = true) ∧ gnB P Q p = true ∧ elB P Q sz = true ∧ elB P Q sa = true ∧ elB P Q sb = true ∧ exB Q sr = true := by
  unfold fltE at h
  split at h
  · rename_i h1
    split at h
    · rename_i h2
      split at h
      · rename_i h3
        simp only [kvB, Bool.and_eq_true] at h1
        simp only [cvB, Bool.and_eq_true] at h2
        simp only [verB, Bool.and_eq_true, List.all_cons, List.all_nil, Bool.and_true] at h3
        exact ⟨h1.1, ⟨h2.2.1, h2.2.2.1, h2.2.2.2.1, h2.2.2.2.2.1, h2.2.2.2.2.2.1, h2.2.2.2.2.2.2.1⟩, h3.2.1, h3.2.2.2.1.1, h3.2.2.2.1.2.1, h3.2.2.2.1.2.2, h3.2.2.1⟩
      · cases h
    · cases h
  · cases h

theorem Explains_any (P Q G A B C k1 k2 k3 m z x y c r s u v p : Int) (root : Nat → Int) (sz sa sb sr : Int) (w : World) (hP : -9223372036854775808 ≤ P) (hQ : Q ≤ 9223372036854775807) (hT : Tab w) (hS : TabS w) (hR : Byt root) :
    Calls Tryz.prog 23 #[bas P Q G A B C, bkey k1 k2 k3, vw m z x y c r, .agg #[.int .i64 s, .int .i64 u, .int .i64 v], .int .i64 p, hashV root, sgn sz sa sb sr] w fun e w' => e = .returned (.bool (decide (fltE (kvB P Q G A B C k1 k2 k3) (cvB P Q G A B C k1 k2 k3 m z x y c r) (verB P Q G A B C k1 k2 k3 p root sz sa sb sr) = 0) && fitB P Q G m z x y c r s u v p (coinC P Q G A B C p root sz sa sb) sz sa sb sr)) ∧ Up w w' := by
  have M1 := hid (fun w' (hU : Up w w') => uCheck_any P Q G A B C k1 k2 k3 m z x y c r p root sz sa sb sr w' hP hQ (hT.up hU) (hS.up hU) hR)
  have M2 := hid (fun w' (hU : Up w w') => resChallenge_any P Q G A B C p root sz sa sb sr w' hP hQ (hT.up hU) (hS.up hU) hR)
  have HF := hid (flt_ok (P := P) (Q := Q) (G := G) (A := A) (B := B) (C := C) (k1 := k1) (k2 := k2) (k3 := k3) (m := m) (z := z) (x := x) (y := y) (c := c) (r := r) (p := p) (root := root) (sz := sz) (sa := sa) (sb := sb) (sr := sr))
  generalize fltE (kvB P Q G A B C k1 k2 k3) (cvB P Q G A B C k1 k2 k3 m z x y c r) (verB P Q G A B C k1 k2 k3 p root sz sa sb sr) = E at *
  obtain ⟨X, hX⟩ : ∃ X, (decide (E = 0) && fitB P Q G m z x y c r s u v p (coinC P Q G A B C p root sz sa sb) sz sa sb sr) = X := ⟨_, rfl⟩
  have HX := hid hX
  rw [hX]
  clear hX
  obtain ⟨cs, hcs⟩ : ∃ cs, arrK .u8 root 32 = cs := ⟨_, rfl⟩
  have HCz : Hid ((Tryz.prog.info? 31).map (·.size) = some cs.size) := hid (by rw [← hcs, arrK_size]; kernel_rfl)
  unfold hashV at M1 M2 ⊢
  rw [hcs] at M1 M2 ⊢
  obtain ⟨o, ho⟩ : ∃ o, w.heap.size = o := ⟨_, rfl⟩
  have HO := hid ho
  obtain ⟨o1, ho1⟩ : ∃ o1, o + 1 = o1 := ⟨_, rfl⟩
  have HO1 := hid ho1
  obtain ⟨o2, ho2⟩ : ∃ o2, o1 + 1 = o2 := ⟨_, rfl⟩
  have HO2 := hid ho2
  obtain ⟨o3, ho3⟩ : ∃ o3, o2 + 1 = o3 := ⟨_, rfl⟩
  have HO3 := hid ho3
  obtain ⟨o4, ho4⟩ : ∃ o4, o3 + 1 = o4 := ⟨_, rfl⟩
  have HO4 := hid ho4
  obtain ⟨o5, ho5⟩ : ∃ o5, o4 + 1 = o5 := ⟨_, rfl⟩
  have HO5 := hid ho5
  clear hT hS hR hcs ho ho1 ho2 ho3 ho4 ho5
  go_enter Tryz.func23, Tryz.ntmps23
  go_wp2_with (refine wpList_load_row rfl 31 _ rfl (w.heap.size + 1 + 1 + 1 + 1) rfl 31 cs (0, 0) _ (Blk.alloc (Blk.new (by simp) rfl) _) Tryz.underlying31 rfl HCz.out ?_)
  refine (M1.out _ (((((((Up.refl w).alloc _).alloc _).alloc _).alloc _).alloc _).alloc _)).mono ?_
  rintro e w1 ⟨rfl, hU1⟩
  have HA1 := hid (((nums_six (w := w) (t := 25) HO.out).up ((((((Up.refl _).alloc _).alloc _).alloc _).alloc _).alloc _)).up hU1)
  have HY1 := hid (((nums_three (r := o1) (t := 27) (by have := HO.out; have := HO1.out; have := HO2.out; have := HO3.out; have := HO4.out; have := HO5.out; simp; omega)).up (((((Up.refl _).alloc _).alloc _).alloc _).alloc _)).up hU1)
  have HV1 := hid (((nums_six (r := o2) (t := 29) (by have := HO.out; have := HO1.out; have := HO2.out; have := HO3.out; have := HO4.out; have := HO5.out; simp; omega)).up ((((Up.refl _).alloc _).alloc _).alloc _)).up hU1)
  have HF1 := hid (((nums_three (r := o3) (t := 39) (by have := HO.out; have := HO1.out; have := HO2.out; have := HO3.out; have := HO4.out; have := HO5.out; simp; omega)).up (((Up.refl _).alloc _).alloc _)).up hU1)
  have HC1 := hid (((Blk.new (g := o4) (t := 31) (by have := HO.out; have := HO1.out; have := HO2.out; have := HO3.out; have := HO4.out; have := HO5.out; simp; omega) rfl).up ((Up.refl _).alloc _)).up hU1)
  have HS1 := hid (((Blk.new (g := o5) (t := 33) (by have := HO.out; have := HO1.out; have := HO2.out; have := HO3.out; have := HO4.out; have := HO5.out; simp; omega) rfl)).up hU1)
  have HU1 := hid ((((((((Up.refl w).alloc _).alloc _).alloc _).alloc _).alloc _).alloc _).trans hU1)
  clear hU1
  rw [HO.out, HO1.out, HO2.out, HO3.out, HO4.out, HO5.out]
  obtain ⟨⟨lc0, lc1, lc2⟩, lc3, lc4, lc5⟩ := HA1.out
  obtain ⟨le0, le1, le2⟩ := HY1.out
  obtain ⟨⟨lb0, lb1, lb2⟩, lb3, lb4, lb5⟩ := HV1.out
  obtain ⟨lf0, lf1, lf2⟩ := HF1.out
  have ls0 := HS1.out.val (i := 0) rfl
  have ls1 := HS1.out.val (i := 1) rfl
  have ls2 := HS1.out.val (i := 2) rfl
  have ls3 := HS1.out.val (i := 3) rfl
  by_cases hE : E = 0
  case neg =>
    have d : (E != 0) = true := by simpa using hE
    have hX : X = false := by rw [← HX.out, show decide (E = 0) = false by simpa using hE]; rfl
    subst hX
    clear hE
    go_wp2
    go_ret
    exact ⟨rfl, HU1.out⟩
  obtain ⟨hbv, ⟨hm, hz, hx, hy, hc, hr⟩, hp, hsz, hsa, hsb, hsr⟩ := HF.out hE
  subst hE
  have g := gv_iff.1 (bv_iff.1 hbv).1
  have g1 := g.P61
  have g2 := g.P4
  have g3 := g.Q3
  have g4 := g.QP
  have g5 := g.G2
  have g6 := g.GP
  have hE : chlE P Q G A B C p sz sa sb = 0 := by rw [chlE, if_pos hbv, if_pos (by simp [gn_el hp, hsz, hsa, hsb])]
  have hV : chlV P Q G A B C p root sz sa sb = coinC P Q G A B C p root sz sa sb := by rw [chlV, if_pos hE]
  rw [hE, hV] at M2
  generalize coinC P Q G A B C p root sz sa sb = V at *
  obtain ⟨a1, a2, _⟩ := el_iff.1 (gn_el hm)
  obtain ⟨a3, a4, _⟩ := el_iff.1 hz
  obtain ⟨a5, a6, _⟩ := el_iff.1 hx
  obtain ⟨a7, a8, _⟩ := el_iff.1 hy
  obtain ⟨a9, a10⟩ := nzB_iff.1 hc
  obtain ⟨a11, a12⟩ := exB_iff.1 hr
  obtain ⟨a13, a14, _⟩ := el_iff.1 (gn_el hp)
  have M3 := hid (fun w' => explains_any P Q G m z x y c r s u v p V sz sa sb sr w' g1 (by omega) (by omega) (by omega) g6 (by omega) a2 (by omega) a4 (by omega) a6 (by omega) a8 (by omega) a10 a11 a12 (by omega) a14)
  generalize fitB P Q G m z x y c r s u v p V sz sa sb sr = T at *
  obtain rfl : T = X := by rw [← HX.out]; rfl
  clear HX
  clear hbv hm hz hx hy hc hr hp hsz hsa hsb hsr g g1 g2 g3 g4 g5 g6 hE hV a1 a2 a3 a4 a5 a6 a7 a8 a9 a10 a11 a12 a13 a14 HF
  go_wp2_with (refine wpList_load_row rfl 31 _ rfl o4 rfl 31 cs (0, 0) _ HC1.out Tryz.underlying31 rfl HCz.out ?_)
  refine (M2.out _ (HU1.out)).mono ?_
  rintro e w2 ⟨rfl, hU2⟩
  have HA2 := hid (HA1.out.up hU2)
  have HY2 := hid (HY1.out.up hU2)
  have HV2 := hid (HV1.out.up hU2)
  have HF2 := hid (HF1.out.up hU2)
  have HC2 := hid (HC1.out.up hU2)
  have HS2 := hid (HS1.out.up hU2)
  have HU2 := hid (HU1.out.trans hU2)
  clear hU2 HA1 HY1 HV1 HF1 HC1 HS1 HU1 lc0 lc1 lc2 lc3 lc4 lc5 le0 le1 le2 lb0 lb1 lb2 lb3 lb4 lb5 lf0 lf1 lf2 ls0 ls1 ls2 ls3
  obtain ⟨⟨lc0, lc1, lc2⟩, lc3, lc4, lc5⟩ := HA2.out
  obtain ⟨⟨lb0, lb1, lb2⟩, lb3, lb4, lb5⟩ := HV2.out
  obtain ⟨lf0, lf1, lf2⟩ := HF2.out
  have ls0 := HS2.out.val (i := 0) rfl
  have ls1 := HS2.out.val (i := 1) rfl
  have ls2 := HS2.out.val (i := 2) rfl
  have ls3 := HS2.out.val (i := 3) rfl
  go_wp2_with fail
  refine (M3.out _).mono ?_
  rintro e w3 ⟨rfl, hU3⟩
  have HA3 := hid (HA2.out.up hU3)
  have HY3 := hid (HY2.out.up hU3)
  have HV3 := hid (HV2.out.up hU3)
  have HF3 := hid (HF2.out.up hU3)
  have HC3 := hid (HC2.out.up hU3)
  have HS3 := hid (HS2.out.up hU3)
  have HU3 := hid (HU2.out.trans hU3)
  clear hU3 HA2 HY2 HV2 HF2 HC2 HS2 HU2 lc0 lc1 lc2 lc3 lc4 lc5 lb0 lb1 lb2 lb3 lb4 lb5 lf0 lf1 lf2 ls0 ls1 ls2 ls3
  go_wp2
  go_ret
  exact ⟨rfl, HU3.out⟩
end Go.Proofs.YtdlcmpbpdbpanaaGreatDoor
namespace Go.Proofs.YtdlcmpbpdbpanaaGreatDoor
open Go.RowKit Go.Sp
set_option maxHeartbeats 4000000
set_option maxRecDepth 20000

theorem gpw_sc {P Q a k : Int} (h0 : 0 ≤ k) (h1 : k < Q) : gpw P Q a k = pwi P a k := by
  unfold gpw pwi
  rw [Int.emod_eq_of_lt h0 h1]

theorem r26times_ok (P Q G A B C a b : Int) (w : World) (h0 : 0 ≤ a) (h1 : a < Q) (h2 : 0 ≤ b) (h3 : b < Q) (h4 : Q < 2305843009213693952) :
    Calls Tryz.prog 87 #[bas P Q G A B C, .int .i64 a, .int .i64 b] w fun r w' => r = .returned (.int .i64 (a * b % Q)) ∧ Up w w' := by
  go_enter Tryz.func87, Tryz.ntmps87
  go_wp2_with fail
  refine (rMul_ok a b Q _ h0 h1 h2 h3 h4).mono ?_
  rintro r w3 ⟨rfl, rfl⟩
  go_wp2
  go_ret
  exact ⟨rfl, (Up.refl w).alloc _⟩

/-- A power by the reference, the exponent a scalar. -/
theorem rgPower_sc (P Q G a e : Int) (w : World) (h0 : 0 ≤ a) (h1 : a < P) (h2 : 0 ≤ e) (h3 : e < Q) (h4 : P < 2305843009213693952) (h6 : Q < 2305843009213693952) :
    Calls Tryz.prog 35 #[grp P Q G, .int .i64 a, .int .i64 e] w fun r w' => r = .returned (.int .i64 (pwi P a e)) ∧ Up w w' := by
  have h := rgPower_ok P Q G a e w h0 h1 (by omega) (by omega) h4 (by omega) h6
  rwa [gpw_sc h2 h3] at h

theorem r26Fits_any (P Q G A B C m z x y c r s u v p : Int) (root : Nat → Int) (sz sa sb sr : Int) (w : World) (hR : Byt root) (g1 : P < 2305843009213693952) (g2 : 2 ≤ P) (g3 : 1 ≤ Q) (g4 : Q < 2305843009213693952) (g5 : 0 ≤ G) (g6 : G < P)
    (m0 : 0 ≤ m) (m1 : m < P) (z0 : 0 ≤ z) (z1 : z < P) (a0 : 0 ≤ x) (a1 : x < P) (b0 : 0 ≤ y) (b1 : y < P) (c0 : 0 ≤ c) (c1 : c < Q) (r0 : 0 ≤ r) (r1 : r < Q) (p0 : 0 ≤ p) (p1 : p < P) :
    Calls Tryz.prog 22 #[bas P Q G A B C, vw m z x y c r, .agg #[.int .i64 s, .int .i64 u, .int .i64 v], .int .i64 p, hashV root, sgn sz sa sb sr] w fun e w' => e = .returned (.bool (fitB P Q G m z x y c r s u v p (coinC P Q G A B C p root sz sa sb) sz sa sb sr)) ∧ Up w w' := by
  have M1 := hid (fun w' => rChallenge_any P Q G A B C p root sz sa sb sr w' g3 g4 hR)
  generalize coinC P Q G A B C p root sz sa sb = V at *
  have HB : Hid (fitB P Q G m z x y c r s u v p V sz sa sb sr = (facB Q s u v && (p == pwi P m s && (sz == pwi P z s && (sa == pwi P x u * pwi P G v % P && (sb == pwi P y (s * u % Q) * pwi P p v % P && (sr == (r * u % Q + v) % Q && V == c * u % Q))))))) := hid (by
    unfold fitB
    generalize (sr == (r * u % Q + v) % Q) = t1
    generalize (V == c * u % Q) = t2
    generalize (p == pwi P m s) = t3
    generalize (sz == pwi P z s) = t4
    generalize (sa == pwi P x u * pwi P G v % P) = t5
    generalize (sb == pwi P y (s * u % Q) * pwi P p v % P) = t6
    cases t1 <;> cases t2 <;> cases t3 <;> cases t4 <;> cases t5 <;> cases t6 <;> simp)
  generalize fitB P Q G m z x y c r s u v p V sz sa sb sr = T at *
  have M2 := hid (fun w' => r25Factors_any P Q G s u v w')
  obtain ⟨cs, hcs⟩ : ∃ cs, arrK .u8 root 32 = cs := ⟨_, rfl⟩
  have HCz : Hid ((Tryz.prog.info? 31).map (·.size) = some cs.size) := hid (by rw [← hcs, arrK_size]; kernel_rfl)
  unfold hashV at M1 ⊢
  rw [hcs] at M1 ⊢
  obtain ⟨o, ho⟩ : ∃ o, w.heap.size = o := ⟨_, rfl⟩
  have HO := hid ho
  obtain ⟨o1, ho1⟩ : ∃ o1, o + 1 = o1 := ⟨_, rfl⟩
  have HO1 := hid ho1
  obtain ⟨o2, ho2⟩ : ∃ o2, o1 + 1 = o2 := ⟨_, rfl⟩
  have HO2 := hid ho2
  obtain ⟨o3, ho3⟩ : ∃ o3, o2 + 1 = o3 := ⟨_, rfl⟩
  have HO3 := hid ho3
  obtain ⟨o4, ho4⟩ : ∃ o4, o3 + 1 = o4 := ⟨_, rfl⟩
  have HO4 := hid ho4
  obtain ⟨o5, ho5⟩ : ∃ o5, o4 + 1 = o5 := ⟨_, rfl⟩
  have HO5 := hid ho5
  clear hR hcs ho ho1 ho2 ho3 ho4 ho5
  go_enter Tryz.func22, Tryz.ntmps22
  go_wp2_with fail
  refine (M2.out _).mono ?_
  rintro e w1 ⟨rfl, hU1⟩
  have HA1 := hid (((nums_six (w := w) (t := 25) HO.out).up ((((((Up.refl _).alloc _).alloc _).alloc _).alloc _).alloc _)).up hU1)
  have HV1 := hid (((nums_six (r := o1) (t := 29) (by have := HO.out; have := HO1.out; have := HO2.out; have := HO3.out; have := HO4.out; have := HO5.out; simp; omega)).up (((((Up.refl _).alloc _).alloc _).alloc _).alloc _)).up hU1)
  have HF1 := hid (((nums_three (r := o2) (t := 39) (by have := HO.out; have := HO1.out; have := HO2.out; have := HO3.out; have := HO4.out; have := HO5.out; simp; omega)).up ((((Up.refl _).alloc _).alloc _).alloc _)).up hU1)
  have HC1 := hid (((Blk.new (g := o3) (t := 31) (by have := HO.out; have := HO1.out; have := HO2.out; have := HO3.out; have := HO4.out; have := HO5.out; simp; omega) rfl).up (((Up.refl _).alloc _).alloc _)).up hU1)
  have HS1 := hid (((Blk.new (g := o4) (t := 33) (by have := HO.out; have := HO1.out; have := HO2.out; have := HO3.out; have := HO4.out; have := HO5.out; simp; omega) rfl).up ((Up.refl _).alloc _)).up hU1)
  have HD1 := hid (((nums_three (r := o5) (t := 23) (by have := HO.out; have := HO1.out; have := HO2.out; have := HO3.out; have := HO4.out; have := HO5.out; simp; omega))).up hU1)
  have HU1 := hid ((((((((Up.refl w).alloc _).alloc _).alloc _).alloc _).alloc _).alloc _).trans hU1)
  clear hU1
  rw [HO.out, HO1.out, HO2.out, HO3.out, HO4.out, HO5.out]
  obtain ⟨⟨lc0, lc1, lc2⟩, lc3, lc4, lc5⟩ := HA1.out
  obtain ⟨⟨lb0, lb1, lb2⟩, lb3, lb4, lb5⟩ := HV1.out
  obtain ⟨lf0, lf1, lf2⟩ := HF1.out
  have ls0 := HS1.out.val (i := 0) rfl
  have ls1 := HS1.out.val (i := 1) rfl
  have ls2 := HS1.out.val (i := 2) rfl
  have ls3 := HS1.out.val (i := 3) rfl
  obtain ⟨la0, la1, la2⟩ := HD1.out
  by_cases hf : facB Q s u v = true
  case neg =>
    have hf' : facB Q s u v = false := by simpa using hf
    have hX : T = false := by rw [HB.out, hf']; rfl
    subst hX
    rw [hf']
    clear hf hf'
    go_wp2
    go_ret
    exact ⟨rfl, HU1.out⟩
  have HB0 : Hid (T = (p == pwi P m s && (sz == pwi P z s && (sa == pwi P x u * pwi P G v % P && (sb == pwi P y (s * u % Q) * pwi P p v % P && (sr == (r * u % Q + v) % Q && V == c * u % Q)))))) := hid (by rw [HB.out, hf]; rfl)
  obtain ⟨hs, hu, hv⟩ : nzB Q s = true ∧ nzB Q u = true ∧ exB Q v = true := by
    have := hf
    simp only [facB, Bool.and_eq_true] at this
    exact this
  obtain ⟨s0, s1⟩ := nzB_iff.1 hs
  obtain ⟨u0, u1⟩ := nzB_iff.1 hu
  obtain ⟨v0, v1⟩ := exB_iff.1 hv
  rw [hf]
  have r2 := Int.emod_nonneg (r * u) (show Q ≠ 0 by omega)
  have r3 := Int.emod_lt_of_pos (r * u) (show 0 < Q by omega)
  have s2 := Int.emod_nonneg (s * u) (show Q ≠ 0 by omega)
  have s3 := Int.emod_lt_of_pos (s * u) (show 0 < Q by omega)
  have N1 := hid (fun w' => r26times_ok P Q G A B C r u w' r0 r1 (by omega) (by omega) g4)
  have N2 := hid (fun w' => rReduce_ok (r * u % Q + v) Q w' (by omega) (by omega) g3 g4)
  have N3 := hid (fun w' => r26times_ok P Q G A B C c u w' c0 c1 (by omega) (by omega) g4)
  have N4 := hid (fun w' => rgPower_sc P Q G m s w' m0 m1 (by omega) (by omega) g1 g4)
  have N5 := hid (fun w' => rgPower_sc P Q G z s w' z0 z1 (by omega) (by omega) g1 g4)
  have N6 := hid (fun w' => rgPower_sc P Q G x u w' a0 a1 (by omega) (by omega) g1 g4)
  have N7 := hid (fun w' => rgPower_sc P Q G G v w' g5 g6 (by omega) (by omega) g1 g4)
  obtain ⟨x0, x1⟩ := pwi_range (P := P) (a := x) (e := u) (by omega)
  obtain ⟨x2, x3⟩ := pwi_range (P := P) (a := G) (e := v) (by omega)
  have N8 := hid (fun w' => rgMul_ok P Q G (pwi P x u) (pwi P G v) w' x0 x1 x2 x3 g1)
  have N9 := hid (fun w' => r26times_ok P Q G A B C s u w' (by omega) (by omega) (by omega) (by omega) g4)
  have N10 := hid (fun w' => rgPower_sc P Q G y (s * u % Q) w' b0 b1 s2 (by omega) g1 g4)
  have N11 := hid (fun w' => rgPower_sc P Q G p v w' p0 p1 (by omega) (by omega) g1 g4)
  obtain ⟨y0, y1⟩ := pwi_range (P := P) (a := y) (e := s * u % Q) (by omega)
  obtain ⟨y2, y3⟩ := pwi_range (P := P) (a := p) (e := v) (by omega)
  have N12 := hid (fun w' => rgMul_ok P Q G (pwi P y (s * u % Q)) (pwi P p v) w' y0 y1 y2 y3 g1)
  have hwr : IntKind.i64.wrap (r * u % Q + v) = r * u % Q + v := IntWalk.i64_in _ (by omega)
  generalize pwi P y (s * u % Q) = X10 at *
  generalize pwi P p v = X11 at *
  generalize X10 * X11 % P = X12 at *
  generalize pwi P x u = X6 at *
  generalize pwi P G v = X7 at *
  generalize X6 * X7 % P = X8 at *
  generalize pwi P m s = X4 at *
  generalize pwi P z s = X5 at *
  generalize s * u % Q = X9 at *
  generalize r * u % Q = X1 at *
  generalize (X1 + v) % Q = X2 at *
  generalize c * u % Q = X3 at *
  clear hf hs hu hv s0 s1 u0 u1 v0 v1 r2 r3 s2 s3 x0 x1 x2 x3 y0 y1 y2 y3 m0 m1 z0 z1 a0 a1 b0 b1 c0 c1 r0 r1 p0 p1 g1 g2 g3 g4 g5 g6 HB
  have flc0 := cellF lc0
  have flc1 := cellF lc1
  have flc2 := cellF lc2
  have flc3 := cellF lc3
  have flc4 := cellF lc4
  have flc5 := cellF lc5
  have flb0 := cellF lb0
  have flb1 := cellF lb1
  have flb2 := cellF lb2
  have flb3 := cellF lb3
  have flb4 := cellF lb4
  have flb5 := cellF lb5
  have flf0 := cellF lf0
  have flf1 := cellF lf1
  have flf2 := cellF lf2
  have fls0 := cellF ls0
  have fls1 := cellF ls1
  have fls2 := cellF ls2
  have fls3 := cellF ls3
  have fla0 := cellF la0
  have fla1 := cellF la1
  have fla2 := cellF la2
  clear lc0 lc1 lc2 lc3 lc4 lc5 lb0 lb1 lb2 lb3 lb4 lb5 lf0 lf1 lf2 ls0 ls1 ls2 ls3 la0 la1 la2
  go_wp2_with fail
  refine wp_region_up (by kernel_rfl) (by kernel_rfl) ?_
  repeat (go_big_quiet_step ((first
    | (go_at_call 35; first
      | ((with_reducible (show Calls _ _ #[_, .int .i64 m, .int .i64 s] _ _)); exact Calls.up_of (N4.out _))
      | ((with_reducible (show Calls _ _ #[_, .int .i64 z, .int .i64 s] _ _)); exact Calls.up_of (N5.out _))
      | ((with_reducible (show Calls _ _ #[_, .int .i64 x, .int .i64 u] _ _)); exact Calls.up_of (N6.out _))
      | ((with_reducible (show Calls _ _ #[_, .int .i64 G, .int .i64 v] _ _)); exact Calls.up_of (N7.out _))
      | ((with_reducible (show Calls _ _ #[_, .int .i64 y, .int .i64 X9] _ _)); exact Calls.up_of (N10.out _))
      | ((with_reducible (show Calls _ _ #[_, .int .i64 p, .int .i64 v] _ _)); exact Calls.up_of (N11.out _)))
    | (go_at_call 86; first
      | ((with_reducible (show Calls _ _ #[_, .int .i64 X6, _] _ _)); exact Calls.up_of (N8.out _))
      | ((with_reducible (show Calls _ _ #[_, .int .i64 X10, _] _ _)); exact Calls.up_of (N12.out _)))
    | (go_at_call 87; first
      | ((with_reducible (show Calls _ _ #[_, .int .i64 r, .int .i64 u] _ _)); exact Calls.up_of (N1.out _))
      | ((with_reducible (show Calls _ _ #[_, .int .i64 c, .int .i64 u] _ _)); exact Calls.up_of (N3.out _))
      | ((with_reducible (show Calls _ _ #[_, .int .i64 s, .int .i64 u] _ _)); exact Calls.up_of (N9.out _))))))
  refine wpQuiet_nil ?_
  rintro _ ⟨⟨w2, hU2⟩, rfl⟩
  try dsimp only
  have HA2 := hid (HA1.out.up hU2)
  have HV2 := hid (HV1.out.up hU2)
  have HF2 := hid (HF1.out.up hU2)
  have HC2 := hid (HC1.out.up hU2)
  have HS2 := hid (HS1.out.up hU2)
  have HD2 := hid (HD1.out.up hU2)
  have HU2 := hid (HU1.out.trans hU2)
  clear hU2 HA1 HV1 HF1 HC1 HS1 HD1 HU1 flc0 flc1 flc2 flc3 flc4 flc5 flb0 flb1 flb2 flb3 flb4 flb5 flf0 flf1 flf2 fls0 fls1 fls2 fls3 fla0 fla1 fla2
  obtain ⟨⟨lc0, lc1, lc2⟩, lc3, lc4, lc5⟩ := HA2.out
  obtain ⟨⟨lb0, lb1, lb2⟩, lb3, lb4, lb5⟩ := HV2.out
  obtain ⟨lf0, lf1, lf2⟩ := HF2.out
  have ls0 := HS2.out.val (i := 0) rfl
  have ls1 := HS2.out.val (i := 1) rfl
  have ls2 := HS2.out.val (i := 2) rfl
  have ls3 := HS2.out.val (i := 3) rfl
  obtain ⟨la0, la1, la2⟩ := HD2.out
  have flc0 := cellF lc0
  have flc1 := cellF lc1
  have flc2 := cellF lc2
  have flc3 := cellF lc3
  have flc4 := cellF lc4
  have flc5 := cellF lc5
  have flb0 := cellF lb0
  have flb1 := cellF lb1
  have flb2 := cellF lb2
  have flb3 := cellF lb3
  have flb4 := cellF lb4
  have flb5 := cellF lb5
  have flf0 := cellF lf0
  have flf1 := cellF lf1
  have flf2 := cellF lf2
  have fls0 := cellF ls0
  have fls1 := cellF ls1
  have fls2 := cellF ls2
  have fls3 := cellF ls3
  have fla0 := cellF la0
  have fla1 := cellF la1
  have fla2 := cellF la2
  clear lc0 lc1 lc2 lc3 lc4 lc5 lb0 lb1 lb2 lb3 lb4 lb5 lf0 lf1 lf2 ls0 ls1 ls2 ls3 la0 la1 la2
  go_wp2_with fail
  refine wp_region_up (by kernel_rfl) (by kernel_rfl) ?_
  repeat (go_big_quiet_step ((first
    | (go_at_call 35; first
      | ((with_reducible (show Calls _ _ #[_, .int .i64 m, .int .i64 s] _ _)); exact Calls.up_of (N4.out _))
      | ((with_reducible (show Calls _ _ #[_, .int .i64 z, .int .i64 s] _ _)); exact Calls.up_of (N5.out _))
      | ((with_reducible (show Calls _ _ #[_, .int .i64 x, .int .i64 u] _ _)); exact Calls.up_of (N6.out _))
      | ((with_reducible (show Calls _ _ #[_, .int .i64 G, .int .i64 v] _ _)); exact Calls.up_of (N7.out _))
      | ((with_reducible (show Calls _ _ #[_, .int .i64 y, .int .i64 X9] _ _)); exact Calls.up_of (N10.out _))
      | ((with_reducible (show Calls _ _ #[_, .int .i64 p, .int .i64 v] _ _)); exact Calls.up_of (N11.out _)))
    | (go_at_call 86; first
      | ((with_reducible (show Calls _ _ #[_, .int .i64 X6, _] _ _)); exact Calls.up_of (N8.out _))
      | ((with_reducible (show Calls _ _ #[_, .int .i64 X10, _] _ _)); exact Calls.up_of (N12.out _)))
    | (go_at_call 87; first
      | ((with_reducible (show Calls _ _ #[_, .int .i64 r, .int .i64 u] _ _)); exact Calls.up_of (N1.out _))
      | ((with_reducible (show Calls _ _ #[_, .int .i64 c, .int .i64 u] _ _)); exact Calls.up_of (N3.out _))
      | ((with_reducible (show Calls _ _ #[_, .int .i64 s, .int .i64 u] _ _)); exact Calls.up_of (N9.out _))))))
  refine wpQuiet_nil ?_
  rintro _ ⟨⟨w3, hU3⟩, rfl⟩
  try dsimp only
  have HA3 := hid (HA2.out.up hU3)
  have HV3 := hid (HV2.out.up hU3)
  have HF3 := hid (HF2.out.up hU3)
  have HC3 := hid (HC2.out.up hU3)
  have HS3 := hid (HS2.out.up hU3)
  have HD3 := hid (HD2.out.up hU3)
  have HU3 := hid (HU2.out.trans hU3)
  clear hU3 HA2 HV2 HF2 HC2 HS2 HD2 HU2 flc0 flc1 flc2 flc3 flc4 flc5 flb0 flb1 flb2 flb3 flb4 flb5 flf0 flf1 flf2 fls0 fls1 fls2 fls3 fla0 fla1 fla2
  obtain ⟨⟨lc0, lc1, lc2⟩, lc3, lc4, lc5⟩ := HA3.out
  obtain ⟨⟨lb0, lb1, lb2⟩, lb3, lb4, lb5⟩ := HV3.out
  obtain ⟨lf0, lf1, lf2⟩ := HF3.out
  have ls0 := HS3.out.val (i := 0) rfl
  have ls1 := HS3.out.val (i := 1) rfl
  have ls2 := HS3.out.val (i := 2) rfl
  have ls3 := HS3.out.val (i := 3) rfl
  obtain ⟨la0, la1, la2⟩ := HD3.out
  have flc0 := cellF lc0
  have flc1 := cellF lc1
  have flc2 := cellF lc2
  have flc3 := cellF lc3
  have flc4 := cellF lc4
  have flc5 := cellF lc5
  have flb0 := cellF lb0
  have flb1 := cellF lb1
  have flb2 := cellF lb2
  have flb3 := cellF lb3
  have flb4 := cellF lb4
  have flb5 := cellF lb5
  have flf0 := cellF lf0
  have flf1 := cellF lf1
  have flf2 := cellF lf2
  have fls0 := cellF ls0
  have fls1 := cellF ls1
  have fls2 := cellF ls2
  have fls3 := cellF ls3
  have fla0 := cellF la0
  have fla1 := cellF la1
  have fla2 := cellF la2
  clear lc0 lc1 lc2 lc3 lc4 lc5 lb0 lb1 lb2 lb3 lb4 lb5 lf0 lf1 lf2 ls0 ls1 ls2 ls3 la0 la1 la2
  by_cases t0 : p = X4
  case neg =>
    have e0 : (p == X4) = false := by simpa using t0
    have hX : T = false := by rw [HB0.out, e0]; rfl
    subst hX
    clear t0 HB0
    go_wp2_with fail
    refine wp_region_up (by kernel_rfl) (by kernel_rfl) ?_
    try simp only [List.append_eq, List.cons_append, List.nil_append]
    repeat (first
      | (go_big_quiet_want; (refine quiet_load_row 31 _ (by rfl) o3 (by rfl) 31 cs _ HC3.out.from Tryz.underlying31 rfl HCz.out ?_); simp only [Act.put, List.setIfInBounds_toArray, List.set_cons_zero, List.set_cons_succ]; go_big_quiet_on)
      | (go_big_quiet_step ((first
      | (go_at_call 35; first
        | ((with_reducible (show Calls _ _ #[_, .int .i64 m, .int .i64 s] _ _)); exact Calls.up_of (N4.out _))
        | ((with_reducible (show Calls _ _ #[_, .int .i64 z, .int .i64 s] _ _)); exact Calls.up_of (N5.out _))
        | ((with_reducible (show Calls _ _ #[_, .int .i64 x, .int .i64 u] _ _)); exact Calls.up_of (N6.out _))
        | ((with_reducible (show Calls _ _ #[_, .int .i64 G, .int .i64 v] _ _)); exact Calls.up_of (N7.out _))
        | ((with_reducible (show Calls _ _ #[_, .int .i64 y, .int .i64 X9] _ _)); exact Calls.up_of (N10.out _))
        | ((with_reducible (show Calls _ _ #[_, .int .i64 p, .int .i64 v] _ _)); exact Calls.up_of (N11.out _)))
      | (go_at_call 86; first
        | ((with_reducible (show Calls _ _ #[_, .int .i64 X6, _] _ _)); exact Calls.up_of (N8.out _))
        | ((with_reducible (show Calls _ _ #[_, .int .i64 X10, _] _ _)); exact Calls.up_of (N12.out _)))
      | (go_at_call 87; first
        | ((with_reducible (show Calls _ _ #[_, .int .i64 r, .int .i64 u] _ _)); exact Calls.up_of (N1.out _))
        | ((with_reducible (show Calls _ _ #[_, .int .i64 c, .int .i64 u] _ _)); exact Calls.up_of (N3.out _))
        | ((with_reducible (show Calls _ _ #[_, .int .i64 s, .int .i64 u] _ _)); exact Calls.up_of (N9.out _)))
      | (go_at_call 48; exact Calls.up_same (N2.out _))
      | (go_at_call 81; exact Calls.up_of (M1.out _))))))
    refine wpQuiet_nil ?_
    rintro _ ⟨p', rfl⟩
    go_wp2
    go_ret
    exact ⟨rfl, HU3.out.trans p'.up⟩
  have e0 : (p == X4) = true := by simpa using t0
  have HB1 : Hid (T = (sz == X5 && (sa == X8 && (sb == X12 && (sr == X2 && (V == X3)))))) := hid (by rw [HB0.out, e0]; rfl)
  clear t0 HB0
  by_cases t1 : sz = X5
  case neg =>
    have e1 : (sz == X5) = false := by simpa using t1
    have hX : T = false := by rw [HB1.out, e1]; rfl
    subst hX
    clear t1 HB1
    go_wp2_with fail
    refine wp_region_up (by kernel_rfl) (by kernel_rfl) ?_
    try simp only [List.append_eq, List.cons_append, List.nil_append]
    repeat (first
      | (go_big_quiet_want; (refine quiet_load_row 31 _ (by rfl) o3 (by rfl) 31 cs _ HC3.out.from Tryz.underlying31 rfl HCz.out ?_); simp only [Act.put, List.setIfInBounds_toArray, List.set_cons_zero, List.set_cons_succ]; go_big_quiet_on)
      | (go_big_quiet_step ((first
      | (go_at_call 35; first
        | ((with_reducible (show Calls _ _ #[_, .int .i64 m, .int .i64 s] _ _)); exact Calls.up_of (N4.out _))
        | ((with_reducible (show Calls _ _ #[_, .int .i64 z, .int .i64 s] _ _)); exact Calls.up_of (N5.out _))
        | ((with_reducible (show Calls _ _ #[_, .int .i64 x, .int .i64 u] _ _)); exact Calls.up_of (N6.out _))
        | ((with_reducible (show Calls _ _ #[_, .int .i64 G, .int .i64 v] _ _)); exact Calls.up_of (N7.out _))
        | ((with_reducible (show Calls _ _ #[_, .int .i64 y, .int .i64 X9] _ _)); exact Calls.up_of (N10.out _))
        | ((with_reducible (show Calls _ _ #[_, .int .i64 p, .int .i64 v] _ _)); exact Calls.up_of (N11.out _)))
      | (go_at_call 86; first
        | ((with_reducible (show Calls _ _ #[_, .int .i64 X6, _] _ _)); exact Calls.up_of (N8.out _))
        | ((with_reducible (show Calls _ _ #[_, .int .i64 X10, _] _ _)); exact Calls.up_of (N12.out _)))
      | (go_at_call 87; first
        | ((with_reducible (show Calls _ _ #[_, .int .i64 r, .int .i64 u] _ _)); exact Calls.up_of (N1.out _))
        | ((with_reducible (show Calls _ _ #[_, .int .i64 c, .int .i64 u] _ _)); exact Calls.up_of (N3.out _))
        | ((with_reducible (show Calls _ _ #[_, .int .i64 s, .int .i64 u] _ _)); exact Calls.up_of (N9.out _)))
      | (go_at_call 48; exact Calls.up_same (N2.out _))
      | (go_at_call 81; exact Calls.up_of (M1.out _))))))
    refine wpQuiet_nil ?_
    rintro _ ⟨p', rfl⟩
    go_wp2
    go_ret
    exact ⟨rfl, HU3.out.trans p'.up⟩
  have e1 : (sz == X5) = true := by simpa using t1
  have HB2 : Hid (T = (sa == X8 && (sb == X12 && (sr == X2 && (V == X3))))) := hid (by rw [HB1.out, e1]; rfl)
  clear t1 HB1
  by_cases t2 : sa = X8
  case neg =>
    have e2 : (sa == X8) = false := by simpa using t2
    have hX : T = false := by rw [HB2.out, e2]; rfl
    subst hX
    clear t2 HB2
    go_wp2_with fail
    refine wp_region_up (by kernel_rfl) (by kernel_rfl) ?_
    try simp only [List.append_eq, List.cons_append, List.nil_append]
    repeat (first
      | (go_big_quiet_want; (refine quiet_load_row 31 _ (by rfl) o3 (by rfl) 31 cs _ HC3.out.from Tryz.underlying31 rfl HCz.out ?_); simp only [Act.put, List.setIfInBounds_toArray, List.set_cons_zero, List.set_cons_succ]; go_big_quiet_on)
      | (go_big_quiet_step ((first
      | (go_at_call 35; first
        | ((with_reducible (show Calls _ _ #[_, .int .i64 m, .int .i64 s] _ _)); exact Calls.up_of (N4.out _))
        | ((with_reducible (show Calls _ _ #[_, .int .i64 z, .int .i64 s] _ _)); exact Calls.up_of (N5.out _))
        | ((with_reducible (show Calls _ _ #[_, .int .i64 x, .int .i64 u] _ _)); exact Calls.up_of (N6.out _))
        | ((with_reducible (show Calls _ _ #[_, .int .i64 G, .int .i64 v] _ _)); exact Calls.up_of (N7.out _))
        | ((with_reducible (show Calls _ _ #[_, .int .i64 y, .int .i64 X9] _ _)); exact Calls.up_of (N10.out _))
        | ((with_reducible (show Calls _ _ #[_, .int .i64 p, .int .i64 v] _ _)); exact Calls.up_of (N11.out _)))
      | (go_at_call 86; first
        | ((with_reducible (show Calls _ _ #[_, .int .i64 X6, _] _ _)); exact Calls.up_of (N8.out _))
        | ((with_reducible (show Calls _ _ #[_, .int .i64 X10, _] _ _)); exact Calls.up_of (N12.out _)))
      | (go_at_call 87; first
        | ((with_reducible (show Calls _ _ #[_, .int .i64 r, .int .i64 u] _ _)); exact Calls.up_of (N1.out _))
        | ((with_reducible (show Calls _ _ #[_, .int .i64 c, .int .i64 u] _ _)); exact Calls.up_of (N3.out _))
        | ((with_reducible (show Calls _ _ #[_, .int .i64 s, .int .i64 u] _ _)); exact Calls.up_of (N9.out _)))
      | (go_at_call 48; exact Calls.up_same (N2.out _))
      | (go_at_call 81; exact Calls.up_of (M1.out _))))))
    refine wpQuiet_nil ?_
    rintro _ ⟨p', rfl⟩
    go_wp2
    go_ret
    exact ⟨rfl, HU3.out.trans p'.up⟩
  have e2 : (sa == X8) = true := by simpa using t2
  have HB3 : Hid (T = (sb == X12 && (sr == X2 && (V == X3)))) := hid (by rw [HB2.out, e2]; rfl)
  clear t2 HB2
  by_cases t3 : sb = X12
  case neg =>
    have e3 : (sb == X12) = false := by simpa using t3
    have hX : T = false := by rw [HB3.out, e3]; rfl
    subst hX
    clear t3 HB3
    go_wp2_with fail
    refine wp_region_up (by kernel_rfl) (by kernel_rfl) ?_
    try simp only [List.append_eq, List.cons_append, List.nil_append]
    repeat (first
      | (go_big_quiet_want; (refine quiet_load_row 31 _ (by rfl) o3 (by rfl) 31 cs _ HC3.out.from Tryz.underlying31 rfl HCz.out ?_); simp only [Act.put, List.setIfInBounds_toArray, List.set_cons_zero, List.set_cons_succ]; go_big_quiet_on)
      | (go_big_quiet_step ((first
      | (go_at_call 35; first
        | ((with_reducible (show Calls _ _ #[_, .int .i64 m, .int .i64 s] _ _)); exact Calls.up_of (N4.out _))
        | ((with_reducible (show Calls _ _ #[_, .int .i64 z, .int .i64 s] _ _)); exact Calls.up_of (N5.out _))
        | ((with_reducible (show Calls _ _ #[_, .int .i64 x, .int .i64 u] _ _)); exact Calls.up_of (N6.out _))
        | ((with_reducible (show Calls _ _ #[_, .int .i64 G, .int .i64 v] _ _)); exact Calls.up_of (N7.out _))
        | ((with_reducible (show Calls _ _ #[_, .int .i64 y, .int .i64 X9] _ _)); exact Calls.up_of (N10.out _))
        | ((with_reducible (show Calls _ _ #[_, .int .i64 p, .int .i64 v] _ _)); exact Calls.up_of (N11.out _)))
      | (go_at_call 86; first
        | ((with_reducible (show Calls _ _ #[_, .int .i64 X6, _] _ _)); exact Calls.up_of (N8.out _))
        | ((with_reducible (show Calls _ _ #[_, .int .i64 X10, _] _ _)); exact Calls.up_of (N12.out _)))
      | (go_at_call 87; first
        | ((with_reducible (show Calls _ _ #[_, .int .i64 r, .int .i64 u] _ _)); exact Calls.up_of (N1.out _))
        | ((with_reducible (show Calls _ _ #[_, .int .i64 c, .int .i64 u] _ _)); exact Calls.up_of (N3.out _))
        | ((with_reducible (show Calls _ _ #[_, .int .i64 s, .int .i64 u] _ _)); exact Calls.up_of (N9.out _)))
      | (go_at_call 48; exact Calls.up_same (N2.out _))
      | (go_at_call 81; exact Calls.up_of (M1.out _))))))
    refine wpQuiet_nil ?_
    rintro _ ⟨p', rfl⟩
    go_wp2
    go_ret
    exact ⟨rfl, HU3.out.trans p'.up⟩
  have e3 : (sb == X12) = true := by simpa using t3
  have HB4 : Hid (T = (sr == X2 && (V == X3))) := hid (by rw [HB3.out, e3]; rfl)
  clear t3 HB3
  by_cases t4 : sr = X2
  case neg =>
    have e4 : (sr == X2) = false := by simpa using t4
    have hX : T = false := by rw [HB4.out, e4]; rfl
    subst hX
    clear t4 HB4
    go_wp2_with fail
    refine wp_region_up (by kernel_rfl) (by kernel_rfl) ?_
    try simp only [List.append_eq, List.cons_append, List.nil_append]
    repeat (first
      | (go_big_quiet_want; (refine quiet_load_row 31 _ (by rfl) o3 (by rfl) 31 cs _ HC3.out.from Tryz.underlying31 rfl HCz.out ?_); simp only [Act.put, List.setIfInBounds_toArray, List.set_cons_zero, List.set_cons_succ]; go_big_quiet_on)
      | (go_big_quiet_step ((first
      | (go_at_call 35; first
        | ((with_reducible (show Calls _ _ #[_, .int .i64 m, .int .i64 s] _ _)); exact Calls.up_of (N4.out _))
        | ((with_reducible (show Calls _ _ #[_, .int .i64 z, .int .i64 s] _ _)); exact Calls.up_of (N5.out _))
        | ((with_reducible (show Calls _ _ #[_, .int .i64 x, .int .i64 u] _ _)); exact Calls.up_of (N6.out _))
        | ((with_reducible (show Calls _ _ #[_, .int .i64 G, .int .i64 v] _ _)); exact Calls.up_of (N7.out _))
        | ((with_reducible (show Calls _ _ #[_, .int .i64 y, .int .i64 X9] _ _)); exact Calls.up_of (N10.out _))
        | ((with_reducible (show Calls _ _ #[_, .int .i64 p, .int .i64 v] _ _)); exact Calls.up_of (N11.out _)))
      | (go_at_call 86; first
        | ((with_reducible (show Calls _ _ #[_, .int .i64 X6, _] _ _)); exact Calls.up_of (N8.out _))
        | ((with_reducible (show Calls _ _ #[_, .int .i64 X10, _] _ _)); exact Calls.up_of (N12.out _)))
      | (go_at_call 87; first
        | ((with_reducible (show Calls _ _ #[_, .int .i64 r, .int .i64 u] _ _)); exact Calls.up_of (N1.out _))
        | ((with_reducible (show Calls _ _ #[_, .int .i64 c, .int .i64 u] _ _)); exact Calls.up_of (N3.out _))
        | ((with_reducible (show Calls _ _ #[_, .int .i64 s, .int .i64 u] _ _)); exact Calls.up_of (N9.out _)))
      | (go_at_call 48; exact Calls.up_same (N2.out _))
      | (go_at_call 81; exact Calls.up_of (M1.out _))))))
    refine wpQuiet_nil ?_
    rintro _ ⟨p', rfl⟩
    go_wp2
    go_ret
    exact ⟨rfl, HU3.out.trans p'.up⟩
  have e4 : (sr == X2) = true := by simpa using t4
  have HB5 : Hid (T = (V == X3)) := hid (by rw [HB4.out, e4]; rfl)
  clear t4 HB4
  go_wp2_with fail
  refine wp_region_up (by kernel_rfl) (by kernel_rfl) ?_
  try simp only [List.append_eq, List.cons_append, List.nil_append]
  repeat (first
    | (go_big_quiet_want; (refine quiet_load_row 31 _ (by rfl) o3 (by rfl) 31 cs _ HC3.out.from Tryz.underlying31 rfl HCz.out ?_); simp only [Act.put, List.setIfInBounds_toArray, List.set_cons_zero, List.set_cons_succ]; go_big_quiet_on)
    | (go_big_quiet_step ((first
    | (go_at_call 35; first
      | ((with_reducible (show Calls _ _ #[_, .int .i64 m, .int .i64 s] _ _)); exact Calls.up_of (N4.out _))
      | ((with_reducible (show Calls _ _ #[_, .int .i64 z, .int .i64 s] _ _)); exact Calls.up_of (N5.out _))
      | ((with_reducible (show Calls _ _ #[_, .int .i64 x, .int .i64 u] _ _)); exact Calls.up_of (N6.out _))
      | ((with_reducible (show Calls _ _ #[_, .int .i64 G, .int .i64 v] _ _)); exact Calls.up_of (N7.out _))
      | ((with_reducible (show Calls _ _ #[_, .int .i64 y, .int .i64 X9] _ _)); exact Calls.up_of (N10.out _))
      | ((with_reducible (show Calls _ _ #[_, .int .i64 p, .int .i64 v] _ _)); exact Calls.up_of (N11.out _)))
    | (go_at_call 86; first
      | ((with_reducible (show Calls _ _ #[_, .int .i64 X6, _] _ _)); exact Calls.up_of (N8.out _))
      | ((with_reducible (show Calls _ _ #[_, .int .i64 X10, _] _ _)); exact Calls.up_of (N12.out _)))
    | (go_at_call 87; first
      | ((with_reducible (show Calls _ _ #[_, .int .i64 r, .int .i64 u] _ _)); exact Calls.up_of (N1.out _))
      | ((with_reducible (show Calls _ _ #[_, .int .i64 c, .int .i64 u] _ _)); exact Calls.up_of (N3.out _))
      | ((with_reducible (show Calls _ _ #[_, .int .i64 s, .int .i64 u] _ _)); exact Calls.up_of (N9.out _)))
    | (go_at_call 48; exact Calls.up_same (N2.out _))
    | (go_at_call 81; exact Calls.up_of (M1.out _))))))
  refine wpQuiet_nil ?_
  rintro _ ⟨p', rfl⟩
  go_wp2
  go_ret
  exact ⟨by rw [HB5.out]; rfl, HU3.out.trans p'.up⟩
end Go.Proofs.YtdlcmpbpdbpanaaGreatDoor
namespace Go.Proofs.YtdlcmpbpdbpanaaGreatDoor
open Go.RowKit Go.Sp
set_option maxHeartbeats 4000000
set_option maxRecDepth 20000

theorem sigScalar_any (P Q G x : Int) (w : World) :
    Calls Tryz.prog 100 #[grp P Q G, .int .i64 x] w fun e w' => e = .returned (.bool (exB Q x)) ∧ Up w w' := by
  have HB : Hid (exB Q x = (decide (0 ≤ x) && decide (x < Q))) := hid rfl
  generalize exB Q x = X at *
  by_cases c1 : x ≥ 0
  case neg =>
    have d1 : decide (x ≥ 0) = false := by simpa using c1
    have hX : X = false := by rw [HB.out, show decide (0 ≤ x) = false from d1]; rfl
    subst hX
    clear c1
    go_enter Tryz.func100, Tryz.ntmps100
    go_wp2
    go_ret
    exact ⟨rfl, (Up.refl w).alloc _⟩
  have d1 : decide (x ≥ 0) = true := by simpa using c1
  have HB2 : Hid (X = decide (x < Q)) := hid (by rw [HB.out, show decide (0 ≤ x) = true from d1]; rfl)
  clear HB
  go_enter Tryz.func100, Tryz.ntmps100
  go_wp2
  go_ret
  exact ⟨by rw [HB2.out]; rfl, (Up.refl w).alloc _⟩

theorem sgen_el {P Q G : Int} (hg : gvB P Q G = true) : elB P Q G = true := by
  have g := gv_iff.1 hg
  have g5 := g.G2
  exact el_iff.2 ⟨by omega, g.GP, g.GQ⟩

/-- The first error of a group and a number that ought to be a scalar. -/
theorem sigKey_any (P Q G x : Int) (w : World) (hP : -9223372036854775808 ≤ P) (hQ : Q ≤ 9223372036854775807) (hT : Tab w) :
    Calls Tryz.prog 30 #[grp P Q G, .int .i64 x] w fun e w' => e = .returned (.tuple #[.int .i64 (orZ (errE (gvB P Q G) (exB Q x)) (pwi P G x)), .int .i64 (errE (gvB P Q G) (exB Q x))]) ∧ Up w w' := by
  have M1 := hid (fun w' (hU : Up w w') => sigCheck_any P Q G (.slice none 0 0) [] w' hP hQ (hT.up hU) (ints_none w'))
  have M2 := hid (fun w' => sigScalar_any P Q G x w')
  have M3 := hid (fun w' (hU : Up w w') (hg : gvB P Q G = true) (hx : exB Q x = true) => gpw_sc (P := P) (a := G) (exB_iff.1 hx).1 (exB_iff.1 hx).2 ▸ gPower_ok P Q G G x w' hQ (hT.up hU) hg (sgen_el hg) (by have := (exB_iff.1 hx).1; omega) (by have := (exB_iff.1 hx).2; omega))
  rw [show chkI P Q G [] = if gvB P Q G = true then 0 else 1 by unfold chkI; simp] at M1
  generalize pwi P G x = V at *
  generalize gvB P Q G = b1 at *
  generalize exB Q x = b2 at *
  clear hT
  go_enter Tryz.func30, Tryz.ntmps30
  go_wp2_with fail
  refine (M1.out _ ((Up.refl w).alloc _)).mono ?_
  rintro e w1 ⟨rfl, hU1⟩
  have HA1 := hid (box_reads rfl hU1)
  have HU1 := hid (((Up.refl w).alloc _).trans hU1)
  clear hU1
  obtain ⟨c0, c1, c2⟩ := HA1.out
  cases b1
  · go_wp2
    go_ret2
    exact ⟨rfl, HU1.out⟩
  go_wp2_with fail
  refine (M2.out _).mono ?_
  rintro e w2 ⟨rfl, hU2⟩
  have HA2 := hid (HA1.out.up hU2)
  have HU2 := hid (HU1.out.trans hU2)
  clear hU2 HA1 HU1 c0 c1 c2
  obtain ⟨c0, c1, c2⟩ := HA2.out
  cases b2
  · go_wp2
    go_ret2
    exact ⟨rfl, HU2.out⟩
  go_wp2_with fail
  refine (M3.out _ HU2.out (by trivial) (by trivial)).mono ?_
  rintro e w3 ⟨rfl, hU3⟩
  have HU3 := hid (HU2.out.trans hU3)
  clear hU3 HA2 HU2 c0 c1 c2
  go_wp2
  go_ret2
  exact ⟨rfl, HU3.out⟩

theorem sigChallenge_bad (P Q G r y E : Int) (v : Value) (w : World) (hP : -9223372036854775808 ≤ P) (hQ : Q ≤ 9223372036854775807) (hT : Tab w) (hE : chkI P Q G [r, y] = E) (h0 : (E != 0) = true) :
    Calls Tryz.prog 31 #[grp P Q G, .int .i64 r, .int .i64 y, v] w fun e w' => e = .returned (.tuple #[.int .i64 0, .int .i64 E]) ∧ Up w w' := by
  have HT := hid hT
  have HE := hid hE
  clear hT hE
  go_enter Tryz.func31, Tryz.ntmps31
  go_wp2_with fail
  refine (sigCheck_any P Q G _ [r, y] _ hP hQ (HT.out.up (((Up.refl w).alloc _).alloc _)) (ints_two (by go_simp) (by go_simp))).mono ?_
  rintro e w1 ⟨rfl, hU1⟩
  rw [HE.out]
  go_wp2
  go_ret2
  exact ⟨rfl, (((Up.refl w).alloc _).alloc _).trans hU1⟩

theorem sigChallenge_long (P Q G r y : Int) (v : Value) (m : List Int) (w : World) (hP : -9223372036854775808 ≤ P) (hQ : Q ≤ 9223372036854775807) (hT : Tab w) (hE : chkI P Q G [r, y] = 0) (hv : SeqAt .u8 w v m) (hl : 16384 < m.length) :
    Calls Tryz.prog 31 #[grp P Q G, .int .i64 r, .int .i64 y, v] w fun e w' => e = .returned (.tuple #[.int .i64 0, .int .i64 5]) ∧ Up w w' := by
  have HT := hid hT
  have HE := hid hE
  obtain ⟨va, vc, rfl, _, _⟩ := hv.shape
  obtain ⟨n, hn⟩ : ∃ n, m.length = n := ⟨_, rfl⟩
  rw [hn] at hl
  rw [hn]
  have dl : decide ((n : Int) > 16384) = true := by simp; omega
  clear hT hE hv hn
  go_enter Tryz.func31, Tryz.ntmps31
  go_wp2_with fail
  refine (sigCheck_any P Q G _ [r, y] _ hP hQ (HT.out.up (((Up.refl w).alloc _).alloc _)) (ints_two (by go_simp) (by go_simp))).mono ?_
  rintro e w1 ⟨rfl, hU1⟩
  rw [HE.out]
  go_wp2
  go_ret2
  exact ⟨rfl, (((Up.refl w).alloc _).alloc _).trans hU1⟩

/-- The first error of a challenge's arguments. -/
def sigE (P Q G r y : Int) (n : Nat) : Int := if chkI P Q G [r, y] = 0 then (if n ≤ 16384 then 0 else 5) else chkI P Q G [r, y]
theorem sigChallenge_any (P Q G r y : Int) (v : Value) (m : List Int) (w : World) (hP : -9223372036854775808 ≤ P) (hQ : Q ≤ 9223372036854775807) (hT : Tab w) (hS : TabS w) (hv : SeqAt .u8 w v m) (hm : ∀ x ∈ m, 0 ≤ x ∧ x ≤ 255) :
    Calls Tryz.prog 31 #[grp P Q G, .int .i64 r, .int .i64 y, v] w fun e w' => e = .returned (.tuple #[.int .i64 (orZ (sigE P Q G r y m.length) (sigC P Q G r y m)), .int .i64 (sigE P Q G r y m.length)]) ∧ Up w w' := by
  by_cases h : chkI P Q G [r, y] = 0
  · obtain ⟨hg, hx⟩ := chk_cases h
    by_cases hl : m.length ≤ 16384
    · rw [show sigE P Q G r y m.length = 0 by rw [sigE, if_pos h, if_pos hl]]
      exact sigChallenge_ok P Q G r y v m w hT hS hg (hx r (by simp)) (hx y (by simp)) hv hl hm
    · rw [show sigE P Q G r y m.length = 5 by rw [sigE, if_pos h, if_neg hl]]
      exact sigChallenge_long P Q G r y v m w hP hQ hT h hv (by omega)
  · rw [show sigE P Q G r y m.length = chkI P Q G [r, y] by rw [sigE, if_neg h]]
    rw [show orZ (chkI P Q G [r, y]) (sigC P Q G r y m) = 0 by rw [orZ, if_neg h]]
    exact sigChallenge_bad P Q G r y _ v w hP hQ hT rfl (by simp [h])

/-- The commitment that fits. -/
def frgV (P Q G y c s : Int) : Int := pwi P G s * gpw P Q y (-c) % P
def frgE (P Q G y c s : Int) : Int := errE (gvB P Q G) (elB P Q y && (exB Q c && exB Q s))
theorem frgV_el {P Q G y c s : Int} (hg : gvB P Q G = true) (hy : elB P Q y = true) : elB P Q (frgV P Q G y c s) = true := by
  have g := gv_iff.1 hg
  have g2 := g.P4
  have g3 := g.Q3
  exact el_mul (by omega) (by omega) (el_pw (by omega) (by omega) (sgen_el hg) _) (gpw_el (by omega) (by omega) hy _)

theorem sigForge_any (P Q G y c s : Int) (w : World) (hP : -9223372036854775808 ≤ P) (hQ : Q ≤ 9223372036854775807) (hT : Tab w) :
    Calls Tryz.prog 32 #[grp P Q G, .int .i64 y, .int .i64 c, .int .i64 s] w fun e w' => e = .returned (.tuple #[.int .i64 (orZ (frgE P Q G y c s) (frgV P Q G y c s)), .int .i64 (frgE P Q G y c s)]) ∧ Up w w' := by
  have M1 := hid (fun w' (v' : Value) (hU : Up w w') (hv' : IntsAt w' v' [y]) => sigCheck_any P Q G v' [y] w' hP hQ (hT.up hU) hv')
  have M2 := hid (fun w' => sigScalar_any P Q G c w')
  have M3 := hid (fun w' => sigScalar_any P Q G s w')
  have M4 := hid (fun w' (hU : Up w w') (hg : gvB P Q G = true) (hx : exB Q s = true) => gpw_sc (P := P) (a := G) (exB_iff.1 hx).1 (exB_iff.1 hx).2 ▸ gPower_ok P Q G G s w' hQ (hT.up hU) hg (sgen_el hg) (by have := (exB_iff.1 hx).1; omega) (by have := (exB_iff.1 hx).2; omega))
  have M5 := hid (fun w' (hU : Up w w') (hg : gvB P Q G = true) (hy : elB P Q y = true) (hx : exB Q c = true) => gPower_ok P Q G y (-c) w' hQ (hT.up hU) hg hy (by have := (exB_iff.1 hx).2; omega) (by have := (exB_iff.1 hx).1; omega))
  have M6 := hid (fun w' (hU : Up w w') (hg : gvB P Q G = true) (hy : elB P Q y = true) => gMul_ok P Q G (pwi P G s) (gpw P Q y (-c)) w' hQ (hT.up hU) hg (by have g := gv_iff.1 hg; have g2 := g.P4; have g3 := g.Q3; exact el_pw (by omega) (by omega) (sgen_el hg) _) (by have g := gv_iff.1 hg; have g2 := g.P4; have g3 := g.Q3; exact gpw_el (by omega) (by omega) hy _))
  have HW : Hid (exB Q c = true → IntKind.i64.wrap (-c) = -c) := hid (fun h => by have h1 := exB_iff.1 h; rw [IntKind.wrap_i64]; omega)
  rw [show chkI P Q G [y] = errE (gvB P Q G) (elB P Q y) by unfold chkI errE; simp] at M1
  unfold frgE frgV
  generalize pwi P G s = V1 at *
  generalize gpw P Q y (-c) = V2 at *
  generalize V1 * V2 % P = V at *
  generalize gvB P Q G = b1 at *
  generalize elB P Q y = b2 at *
  generalize exB Q c = b3 at *
  generalize exB Q s = b4 at *
  clear hT
  obtain ⟨o, ho⟩ : ∃ o, w.heap.size = o := ⟨_, rfl⟩
  have HO := hid ho
  clear ho
  go_enter Tryz.func32, Tryz.ntmps32
  go_wp2_with fail
  refine (M1.out _ _ (((Up.refl w).alloc _).alloc _) (ints_one (by go_simp))).mono ?_
  rintro e w1 ⟨rfl, hU1⟩
  have HA1 := hid ((((nums_three (w := w) (t := 23) HO.out).up ((Up.refl _).alloc _)).up hU1))
  have HU1 := hid ((((Up.refl w).alloc _).alloc _).trans hU1)
  rw [HO.out]
  clear hU1
  obtain ⟨c0, c1, c2⟩ := HA1.out
  cases b1
  · go_wp2
    go_ret2
    exact ⟨rfl, HU1.out⟩
  cases b2
  · go_wp2
    go_ret2
    exact ⟨rfl, HU1.out⟩
  go_wp2_with fail
  refine (M2.out _).mono ?_
  rintro e w2 ⟨rfl, hU2⟩
  have HA2 := hid (HA1.out.up hU2)
  have HU2 := hid (HU1.out.trans hU2)
  clear hU2 HA1 HU1 c0 c1 c2
  obtain ⟨c0, c1, c2⟩ := HA2.out
  cases b3
  · go_wp2
    go_ret2
    exact ⟨rfl, HU2.out⟩
  have hw := HW.out rfl
  go_wp2_with fail
  refine (M3.out _).mono ?_
  rintro e w3 ⟨rfl, hU3⟩
  have HA3 := hid (HA2.out.up hU3)
  have HU3 := hid (HU2.out.trans hU3)
  clear hU3 HA2 HU2 c0 c1 c2
  obtain ⟨c0, c1, c2⟩ := HA3.out
  cases b4
  · go_wp2
    go_ret2
    exact ⟨rfl, HU3.out⟩
  go_wp2_with fail
  refine (M4.out _ HU3.out (by trivial) (by trivial)).mono ?_
  rintro e w4 ⟨rfl, hU4⟩
  have HA4 := hid (HA3.out.up hU4)
  have HU4 := hid (HU3.out.trans hU4)
  clear hU4 HA3 HU3 c0 c1 c2
  obtain ⟨c0, c1, c2⟩ := HA4.out
  go_wp2_with fail
  try rw [hw]
  refine (M5.out _ HU4.out (by trivial) (by trivial) (by trivial)).mono ?_
  rintro e w5 ⟨rfl, hU5⟩
  have HA5 := hid (HA4.out.up hU5)
  have HU5 := hid (HU4.out.trans hU5)
  clear hU5 HA4 HU4 c0 c1 c2
  obtain ⟨c0, c1, c2⟩ := HA5.out
  go_wp2_with fail
  refine (M6.out _ HU5.out (by trivial) (by trivial)).mono ?_
  rintro e w6 ⟨rfl, hU6⟩
  have HU6 := hid (HU5.out.trans hU6)
  clear hU6 HA5 HU5 c0 c1 c2
  go_wp2
  go_ret2
  exact ⟨rfl, HU6.out⟩
end Go.Proofs.YtdlcmpbpdbpanaaGreatDoor
