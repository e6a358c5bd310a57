/- Package unlink: which factors explain. Package unlink: Explains. The table behind: a number below 2^20 that passes the test is a prime. A number below 2^20 that passes the test is a prime. Primes; at most Q roots; all elements are powers. -/
import Derived.Test.YtdbhleinhpiohaaGreatDoorMB17
import Derived.Test.YtdbhleinhpiohaaGreatDoorMB1
import Derived.Test.YtdbhleinhpiohaaGreatDoorMB4
namespace Go.Proofs.YtdbhleinhpiohaaGreatDoor
open Go.RowKit Go.Sp
set_option maxHeartbeats 4000000
set_option maxRecDepth 20000

/-- Do factors explain a signature with a challenge by a view? -/
def fitB (P Q G vm vz va vb vc vr s u v p c sz sa sb sr : Int) : Bool :=
  facB Q s u v && (sr == (vr * u % Q + v) % Q && (c == vc * u % Q && (p == pwi P vm s && (sz == pwi P vz s && (sa == pwi P va u * pwi P G v % P && sb == pwi P vb (s * u % Q) * pwi P p v % P)))))

theorem explains_any (P Q G vm vz va vb vc vr s u v p c sz sa sb sr : Int) (w : World) (g1 : P < 2305843009213693952) (g2 : 2 ≤ P) (g4 : Q < 2305843009213693952) (g5 : 0 ≤ G) (g6 : G < P)
    (m0 : 0 ≤ vm) (m1 : vm < P) (z0 : 0 ≤ vz) (z1 : vz < P) (a0 : 0 ≤ va) (a1 : va < P) (b0 : 0 ≤ vb) (b1 : vb < P) (c0 : 0 ≤ vc) (c1 : vc < Q) (r0 : 0 ≤ vr) (r1 : vr < Q) (p0 : 0 ≤ p) (p1 : p < P) :
    Calls Tryz.prog 20 #[grp P Q G, vw vm vz va vb vc vr, .agg #[.int .i64 s, .int .i64 u, .int .i64 v], .int .i64 p, .int .i64 c, sgn sz sa sb sr] w fun e w' => e = .returned (.bool (fitB P Q G vm vz va vb vc vr s u v p c sz sa sb sr)) ∧ Up w w' := by
  have HB : Hid (fitB P Q G vm vz va vb vc vr s u v p c sz sa sb sr = (facB Q s u v && (sr == (vr * u % Q + v) % Q && (c == vc * u % Q && (p == pwi P vm s && (sz == pwi P vz s && (sa == pwi P va u * pwi P G v % P && sb == pwi P vb (s * u % Q) * pwi P p v % P))))))) := hid rfl
  generalize fitB P Q G vm vz va vb vc vr s u v p c sz sa sb sr = T at *
  have HSc := hid (fun w' => fScalar_any P Q G v w')
  obtain ⟨o, ho⟩ : ∃ o, w.heap.size = o := ⟨_, rfl⟩
  have HO := hid ho
  obtain ⟨o1, ho1⟩ : ∃ o1, o + 1 = o1 := ⟨_, rfl⟩
  have HO1 := hid ho1
  obtain ⟨o2, ho2⟩ : ∃ o2, o1 + 1 = o2 := ⟨_, rfl⟩
  have HO2 := hid ho2
  obtain ⟨o3, ho3⟩ : ∃ o3, o2 + 1 = o3 := ⟨_, rfl⟩
  have HO3 := hid ho3
  clear ho ho1 ho2 ho3
  by_cases q0 : s < 1
  case pos =>
    have d0 : decide (s < 1) = true := by simpa using q0
    have hX : T = false := by rw [HB.out, show facB Q s u v = false by simp [facB, nzB]; omega]; rfl
    subst hX
    clear q0
    go_enter Tryz.func20, Tryz.ntmps20
    go_wp2
    go_ret
    exact ⟨rfl, ((((Up.refl w).alloc _).alloc _).alloc _).alloc _⟩
  have d0 : decide (s < 1) = false := by simpa using q0
  by_cases q1 : s ≥ Q
  case pos =>
    have d1 : decide (s ≥ Q) = true := by simpa using q1
    have hX : T = false := by rw [HB.out, show facB Q s u v = false by simp [facB, nzB]; omega]; rfl
    subst hX
    clear q0 q1
    go_enter Tryz.func20, Tryz.ntmps20
    go_wp2
    go_ret
    exact ⟨rfl, ((((Up.refl w).alloc _).alloc _).alloc _).alloc _⟩
  have d1 : decide (s ≥ Q) = false := by simpa using q1
  by_cases q2 : u < 1
  case pos =>
    have d2 : decide (u < 1) = true := by simpa using q2
    have hX : T = false := by rw [HB.out, show facB Q s u v = false by simp [facB, nzB]; omega]; rfl
    subst hX
    clear q0 q1 q2
    go_enter Tryz.func20, Tryz.ntmps20
    go_wp2
    go_ret
    exact ⟨rfl, ((((Up.refl w).alloc _).alloc _).alloc _).alloc _⟩
  have d2 : decide (u < 1) = false := by simpa using q2
  by_cases q3 : u ≥ Q
  case pos =>
    have d3 : decide (u ≥ Q) = true := by simpa using q3
    have hX : T = false := by rw [HB.out, show facB Q s u v = false by simp [facB, nzB]; omega]; rfl
    subst hX
    clear q0 q1 q2 q3
    go_enter Tryz.func20, Tryz.ntmps20
    go_wp2
    go_ret
    exact ⟨rfl, ((((Up.refl w).alloc _).alloc _).alloc _).alloc _⟩
  have d3 : decide (u ≥ Q) = false := by simpa using q3
  go_enter Tryz.func20, Tryz.ntmps20
  go_wp2_with fail
  refine (HSc.out _).mono ?_
  rintro e w1 ⟨rfl, hU1⟩
  have HD1 := hid (((nums_three (w := w) (t := 54) HO.out).up ((((Up.refl _).alloc _).alloc _).alloc _)).up hU1)
  have HV1 := hid (((nums_six (r := o1) (t := 29) (by have := HO.out; have := HO1.out; have := HO2.out; have := HO3.out; simp; omega)).up (((Up.refl _).alloc _).alloc _)).up hU1)
  have HF1 := hid (((nums_three (r := o2) (t := 36) (by have := HO.out; have := HO1.out; have := HO2.out; have := HO3.out; simp; omega)).up ((Up.refl _).alloc _)).up hU1)
  have HS1 := hid (((Blk.new (g := o3) (t := 33) (by have := HO.out; have := HO1.out; have := HO2.out; have := HO3.out; simp; omega) rfl)).up hU1)
  have HU1 := hid ((((((Up.refl w).alloc _).alloc _).alloc _).alloc _).trans hU1)
  clear hU1
  rw [HO.out, HO1.out, HO2.out, HO3.out]
  obtain ⟨la0, la1, la2⟩ := HD1.out
  obtain ⟨⟨lb0, lb1, lb2⟩, lb3, lb4, lb5⟩ := HV1.out
  obtain ⟨lf0, lf1, lf2⟩ := HF1.out
  have ls0 := HS1.out.val (i := 0) rfl
  have ls1 := HS1.out.val (i := 1) rfl
  have ls2 := HS1.out.val (i := 2) rfl
  have ls3 := HS1.out.val (i := 3) rfl
  by_cases hv : exB Q v = true
  case neg =>
    have hv' : exB Q v = false := by simpa using hv
    have hX : T = false := by rw [HB.out, show facB Q s u v = false by simp [facB, hv']]; rfl
    subst hX
    rw [hv']
    clear hv hv'
    go_wp2
    go_ret
    exact ⟨rfl, HU1.out⟩
  obtain ⟨v0, v1⟩ := exB_iff.1 hv
  have HB0 : Hid (T = (sr == (vr * u % Q + v) % Q && (c == vc * u % Q && (p == pwi P vm s && (sz == pwi P vz s && (sa == pwi P va u * pwi P G v % P && sb == pwi P vb (s * u % Q) * pwi P p v % P)))))) := hid (by rw [HB.out, show facB Q s u v = true by simp [facB, nzB, hv]; omega]; rfl)
  rw [hv]
  have r2 := Int.emod_nonneg (vr * u) (show Q ≠ 0 by omega)
  have r3 := Int.emod_lt_of_pos (vr * u) (show 0 < Q by omega)
  have s2 := Int.emod_nonneg (s * u) (show Q ≠ 0 by omega)
  have s3 := Int.emod_lt_of_pos (s * u) (show 0 < Q by omega)
  have M1 := hid (fun w' => fMul_ok P Q G vr u w' r0 r1 (by omega) (by omega) g4)
  have M2 := hid (fun w' => Add_ok (vr * u % Q) v Q w' r2 r3 v0 v1 g4)
  have M3 := hid (fun w' => fMul_ok P Q G vc u w' c0 c1 (by omega) (by omega) g4)
  have M4 := hid (fun w' => fPow_ok P Q G vm s w' m0 m1 (by omega) (by omega) g1)
  have M5 := hid (fun w' => fPow_ok P Q G vz s w' z0 z1 (by omega) (by omega) g1)
  have M6 := hid (fun w' => fPow_ok P Q G va u w' a0 a1 (by omega) (by omega) g1)
  have M7 := hid (fun w' => fPow_ok P Q G G v w' g5 g6 (by omega) (by omega) g1)
  obtain ⟨x0, x1⟩ := pwi_range (P := P) (a := va) (e := u) (by omega)
  obtain ⟨x2, x3⟩ := pwi_range (P := P) (a := G) (e := v) (by omega)
  have M8 := hid (fun w' => fTimes_ok P Q G (pwi P va u) (pwi P G v) w' x0 x1 x2 x3 g1)
  have M9 := hid (fun w' => fMul_ok P Q G s u w' (by omega) (by omega) (by omega) (by omega) g4)
  have M10 := hid (fun w' => fPow_ok P Q G vb (s * u % Q) w' b0 b1 s2 (by omega) g1)
  have M11 := hid (fun w' => fPow_ok P Q G p v w' p0 p1 (by omega) (by omega) g1)
  obtain ⟨y0, y1⟩ := pwi_range (P := P) (a := vb) (e := s * u % Q) (by omega)
  obtain ⟨y2, y3⟩ := pwi_range (P := P) (a := p) (e := v) (by omega)
  have M12 := hid (fun w' => fTimes_ok P Q G (pwi P vb (s * u % Q)) (pwi P p v) w' y0 y1 y2 y3 g1)
  generalize pwi P vb (s * u % Q) = X10 at *
  generalize pwi P p v = X11 at *
  generalize X10 * X11 % P = X12 at *
  generalize pwi P va u = X6 at *
  generalize pwi P G v = X7 at *
  generalize X6 * X7 % P = X8 at *
  generalize pwi P vm s = X4 at *
  generalize pwi P vz s = X5 at *
  generalize s * u % Q = X9 at *
  generalize vr * u % Q = X1 at *
  generalize (X1 + v) % Q = X2 at *
  generalize vc * u % Q = X3 at *
  clear hv q0 q1 q2 q3 v0 v1 r2 r3 s2 s3 x0 x1 x2 x3 y0 y1 y2 y3 m0 m1 z0 z1 a0 a1 b0 b1 c0 c1 r0 r1 p0 p1 g1 g2 g4 g5 g6 HSc HB
  have fla0 := cellF la0
  have fla1 := cellF la1
  have fla2 := cellF la2
  have flb0 := cellF lb0
  have flb1 := cellF lb1
  have flb2 := cellF lb2
  have flb3 := cellF lb3
  have flb4 := cellF lb4
  have flb5 := cellF lb5
  have flf0 := cellF lf0
  have flf1 := cellF lf1
  have flf2 := cellF lf2
  have fls0 := cellF ls0
  have fls1 := cellF ls1
  have fls2 := cellF ls2
  have fls3 := cellF ls3
  clear la0 la1 la2 lb0 lb1 lb2 lb3 lb4 lb5 lf0 lf1 lf2 ls0 ls1 ls2 ls3
  go_wp2_with fail
  refine wp_region_up (by kernel_rfl) (by kernel_rfl) ?_
  repeat (go_big_quiet_step ((first
    | (go_at_call 19; exact Calls.up_of (M1.out _))
    | (go_at_call 50; exact Calls.up_of (M2.out _)))))
  refine wpQuiet_nil ?_
  rintro _ ⟨⟨w2, hU2⟩, rfl⟩
  try dsimp only
  have HD2 := hid (HD1.out.up hU2)
  have HV2 := hid (HV1.out.up hU2)
  have HF2 := hid (HF1.out.up hU2)
  have HS2 := hid (HS1.out.up hU2)
  have HU2 := hid (HU1.out.trans hU2)
  clear hU2 HD1 HV1 HF1 HS1 HU1 fla0 fla1 fla2 flb0 flb1 flb2 flb3 flb4 flb5 flf0 flf1 flf2 fls0 fls1 fls2 fls3
  obtain ⟨la0, la1, la2⟩ := HD2.out
  obtain ⟨⟨lb0, lb1, lb2⟩, lb3, lb4, lb5⟩ := HV2.out
  obtain ⟨lf0, lf1, lf2⟩ := HF2.out
  have ls0 := HS2.out.val (i := 0) rfl
  have ls1 := HS2.out.val (i := 1) rfl
  have ls2 := HS2.out.val (i := 2) rfl
  have ls3 := HS2.out.val (i := 3) rfl
  have fla0 := cellF la0
  have fla1 := cellF la1
  have fla2 := cellF la2
  have flb0 := cellF lb0
  have flb1 := cellF lb1
  have flb2 := cellF lb2
  have flb3 := cellF lb3
  have flb4 := cellF lb4
  have flb5 := cellF lb5
  have flf0 := cellF lf0
  have flf1 := cellF lf1
  have flf2 := cellF lf2
  have fls0 := cellF ls0
  have fls1 := cellF ls1
  have fls2 := cellF ls2
  have fls3 := cellF ls3
  clear la0 la1 la2 lb0 lb1 lb2 lb3 lb4 lb5 lf0 lf1 lf2 ls0 ls1 ls2 ls3
  by_cases t0 : sr = X2
  case neg =>
    have e0 : (sr == X2) = false := by simpa using t0
    have hX : T = false := by rw [HB0.out, e0]; rfl
    subst hX
    clear t0 HB0
    go_wp2_with fail
    refine wp_region_up (by kernel_rfl) (by kernel_rfl) ?_
    try simp only [List.append_eq, List.cons_append, List.nil_append]
    repeat (go_big_quiet_step ((first
      | (go_at_call 19; first
        | ((with_reducible (show Calls _ _ #[_, .int .i64 vc, .int .i64 u] _ _)); exact Calls.up_of (M3.out _))
        | ((with_reducible (show Calls _ _ #[_, .int .i64 s, .int .i64 u] _ _)); exact Calls.up_of (M9.out _)))
      | (go_at_call 51; first
        | ((with_reducible (show Calls _ _ #[_, .int .i64 vm, .int .i64 s] _ _)); exact Calls.up_of (M4.out _))
        | ((with_reducible (show Calls _ _ #[_, .int .i64 vz, .int .i64 s] _ _)); exact Calls.up_of (M5.out _))
        | ((with_reducible (show Calls _ _ #[_, .int .i64 va, .int .i64 u] _ _)); exact Calls.up_of (M6.out _))
        | ((with_reducible (show Calls _ _ #[_, .int .i64 G, .int .i64 v] _ _)); exact Calls.up_of (M7.out _))
        | ((with_reducible (show Calls _ _ #[_, .int .i64 vb, .int .i64 X9] _ _)); exact Calls.up_of (M10.out _))
        | ((with_reducible (show Calls _ _ #[_, .int .i64 p, .int .i64 v] _ _)); exact Calls.up_of (M11.out _)))
      | (go_at_call 52; first
        | ((with_reducible (show Calls _ _ #[_, .int .i64 X6, _] _ _)); exact Calls.up_of (M8.out _))
        | ((with_reducible (show Calls _ _ #[_, .int .i64 X10, _] _ _)); exact Calls.up_of (M12.out _))))))
    refine wpQuiet_nil ?_
    rintro _ ⟨p', rfl⟩
    go_wp2
    go_ret
    exact ⟨rfl, HU2.out.trans p'.up⟩
  have e0 : (sr == X2) = true := by simpa using t0
  have HB1 : Hid (T = (c == X3 && (p == X4 && (sz == X5 && (sa == X8 && (sb == X12)))))) := hid (by rw [HB0.out, e0]; rfl)
  clear t0 HB0
  by_cases t1 : c = X3
  case neg =>
    have e1 : (c == X3) = false := by simpa using t1
    have hX : T = false := by rw [HB1.out, e1]; rfl
    subst hX
    clear t1 HB1
    go_wp2_with fail
    refine wp_region_up (by kernel_rfl) (by kernel_rfl) ?_
    try simp only [List.append_eq, List.cons_append, List.nil_append]
    repeat (go_big_quiet_step ((first
      | (go_at_call 19; first
        | ((with_reducible (show Calls _ _ #[_, .int .i64 vc, .int .i64 u] _ _)); exact Calls.up_of (M3.out _))
        | ((with_reducible (show Calls _ _ #[_, .int .i64 s, .int .i64 u] _ _)); exact Calls.up_of (M9.out _)))
      | (go_at_call 51; first
        | ((with_reducible (show Calls _ _ #[_, .int .i64 vm, .int .i64 s] _ _)); exact Calls.up_of (M4.out _))
        | ((with_reducible (show Calls _ _ #[_, .int .i64 vz, .int .i64 s] _ _)); exact Calls.up_of (M5.out _))
        | ((with_reducible (show Calls _ _ #[_, .int .i64 va, .int .i64 u] _ _)); exact Calls.up_of (M6.out _))
        | ((with_reducible (show Calls _ _ #[_, .int .i64 G, .int .i64 v] _ _)); exact Calls.up_of (M7.out _))
        | ((with_reducible (show Calls _ _ #[_, .int .i64 vb, .int .i64 X9] _ _)); exact Calls.up_of (M10.out _))
        | ((with_reducible (show Calls _ _ #[_, .int .i64 p, .int .i64 v] _ _)); exact Calls.up_of (M11.out _)))
      | (go_at_call 52; first
        | ((with_reducible (show Calls _ _ #[_, .int .i64 X6, _] _ _)); exact Calls.up_of (M8.out _))
        | ((with_reducible (show Calls _ _ #[_, .int .i64 X10, _] _ _)); exact Calls.up_of (M12.out _))))))
    refine wpQuiet_nil ?_
    rintro _ ⟨p', rfl⟩
    go_wp2
    go_ret
    exact ⟨rfl, HU2.out.trans p'.up⟩
  have e1 : (c == X3) = true := by simpa using t1
  have HB2 : Hid (T = (p == X4 && (sz == X5 && (sa == X8 && (sb == X12))))) := hid (by rw [HB1.out, e1]; rfl)
  clear t1 HB1
  by_cases t2 : p = X4
  case neg =>
    have e2 : (p == X4) = false := by simpa using t2
    have hX : T = false := by rw [HB2.out, e2]; rfl
    subst hX
    clear t2 HB2
    go_wp2_with fail
    refine wp_region_up (by kernel_rfl) (by kernel_rfl) ?_
    try simp only [List.append_eq, List.cons_append, List.nil_append]
    repeat (go_big_quiet_step ((first
      | (go_at_call 19; first
        | ((with_reducible (show Calls _ _ #[_, .int .i64 vc, .int .i64 u] _ _)); exact Calls.up_of (M3.out _))
        | ((with_reducible (show Calls _ _ #[_, .int .i64 s, .int .i64 u] _ _)); exact Calls.up_of (M9.out _)))
      | (go_at_call 51; first
        | ((with_reducible (show Calls _ _ #[_, .int .i64 vm, .int .i64 s] _ _)); exact Calls.up_of (M4.out _))
        | ((with_reducible (show Calls _ _ #[_, .int .i64 vz, .int .i64 s] _ _)); exact Calls.up_of (M5.out _))
        | ((with_reducible (show Calls _ _ #[_, .int .i64 va, .int .i64 u] _ _)); exact Calls.up_of (M6.out _))
        | ((with_reducible (show Calls _ _ #[_, .int .i64 G, .int .i64 v] _ _)); exact Calls.up_of (M7.out _))
        | ((with_reducible (show Calls _ _ #[_, .int .i64 vb, .int .i64 X9] _ _)); exact Calls.up_of (M10.out _))
        | ((with_reducible (show Calls _ _ #[_, .int .i64 p, .int .i64 v] _ _)); exact Calls.up_of (M11.out _)))
      | (go_at_call 52; first
        | ((with_reducible (show Calls _ _ #[_, .int .i64 X6, _] _ _)); exact Calls.up_of (M8.out _))
        | ((with_reducible (show Calls _ _ #[_, .int .i64 X10, _] _ _)); exact Calls.up_of (M12.out _))))))
    refine wpQuiet_nil ?_
    rintro _ ⟨p', rfl⟩
    go_wp2
    go_ret
    exact ⟨rfl, HU2.out.trans p'.up⟩
  have e2 : (p == X4) = true := by simpa using t2
  have HB3 : Hid (T = (sz == X5 && (sa == X8 && (sb == X12)))) := hid (by rw [HB2.out, e2]; rfl)
  clear t2 HB2
  by_cases t3 : sz = X5
  case neg =>
    have e3 : (sz == X5) = false := by simpa using t3
    have hX : T = false := by rw [HB3.out, e3]; rfl
    subst hX
    clear t3 HB3
    go_wp2_with fail
    refine wp_region_up (by kernel_rfl) (by kernel_rfl) ?_
    try simp only [List.append_eq, List.cons_append, List.nil_append]
    repeat (go_big_quiet_step ((first
      | (go_at_call 19; first
        | ((with_reducible (show Calls _ _ #[_, .int .i64 vc, .int .i64 u] _ _)); exact Calls.up_of (M3.out _))
        | ((with_reducible (show Calls _ _ #[_, .int .i64 s, .int .i64 u] _ _)); exact Calls.up_of (M9.out _)))
      | (go_at_call 51; first
        | ((with_reducible (show Calls _ _ #[_, .int .i64 vm, .int .i64 s] _ _)); exact Calls.up_of (M4.out _))
        | ((with_reducible (show Calls _ _ #[_, .int .i64 vz, .int .i64 s] _ _)); exact Calls.up_of (M5.out _))
        | ((with_reducible (show Calls _ _ #[_, .int .i64 va, .int .i64 u] _ _)); exact Calls.up_of (M6.out _))
        | ((with_reducible (show Calls _ _ #[_, .int .i64 G, .int .i64 v] _ _)); exact Calls.up_of (M7.out _))
        | ((with_reducible (show Calls _ _ #[_, .int .i64 vb, .int .i64 X9] _ _)); exact Calls.up_of (M10.out _))
        | ((with_reducible (show Calls _ _ #[_, .int .i64 p, .int .i64 v] _ _)); exact Calls.up_of (M11.out _)))
      | (go_at_call 52; first
        | ((with_reducible (show Calls _ _ #[_, .int .i64 X6, _] _ _)); exact Calls.up_of (M8.out _))
        | ((with_reducible (show Calls _ _ #[_, .int .i64 X10, _] _ _)); exact Calls.up_of (M12.out _))))))
    refine wpQuiet_nil ?_
    rintro _ ⟨p', rfl⟩
    go_wp2
    go_ret
    exact ⟨rfl, HU2.out.trans p'.up⟩
  have e3 : (sz == X5) = true := by simpa using t3
  have HB4 : Hid (T = (sa == X8 && (sb == X12))) := hid (by rw [HB3.out, e3]; rfl)
  clear t3 HB3
  by_cases t4 : sa = X8
  case neg =>
    have e4 : (sa == X8) = false := by simpa using t4
    have hX : T = false := by rw [HB4.out, e4]; rfl
    subst hX
    clear t4 HB4
    go_wp2_with fail
    refine wp_region_up (by kernel_rfl) (by kernel_rfl) ?_
    try simp only [List.append_eq, List.cons_append, List.nil_append]
    repeat (go_big_quiet_step ((first
      | (go_at_call 19; first
        | ((with_reducible (show Calls _ _ #[_, .int .i64 vc, .int .i64 u] _ _)); exact Calls.up_of (M3.out _))
        | ((with_reducible (show Calls _ _ #[_, .int .i64 s, .int .i64 u] _ _)); exact Calls.up_of (M9.out _)))
      | (go_at_call 51; first
        | ((with_reducible (show Calls _ _ #[_, .int .i64 vm, .int .i64 s] _ _)); exact Calls.up_of (M4.out _))
        | ((with_reducible (show Calls _ _ #[_, .int .i64 vz, .int .i64 s] _ _)); exact Calls.up_of (M5.out _))
        | ((with_reducible (show Calls _ _ #[_, .int .i64 va, .int .i64 u] _ _)); exact Calls.up_of (M6.out _))
        | ((with_reducible (show Calls _ _ #[_, .int .i64 G, .int .i64 v] _ _)); exact Calls.up_of (M7.out _))
        | ((with_reducible (show Calls _ _ #[_, .int .i64 vb, .int .i64 X9] _ _)); exact Calls.up_of (M10.out _))
        | ((with_reducible (show Calls _ _ #[_, .int .i64 p, .int .i64 v] _ _)); exact Calls.up_of (M11.out _)))
      | (go_at_call 52; first
        | ((with_reducible (show Calls _ _ #[_, .int .i64 X6, _] _ _)); exact Calls.up_of (M8.out _))
        | ((with_reducible (show Calls _ _ #[_, .int .i64 X10, _] _ _)); exact Calls.up_of (M12.out _))))))
    refine wpQuiet_nil ?_
    rintro _ ⟨p', rfl⟩
    go_wp2
    go_ret
    exact ⟨rfl, HU2.out.trans p'.up⟩
  have e4 : (sa == X8) = true := by simpa using t4
  have HB5 : Hid (T = (sb == X12)) := hid (by rw [HB4.out, e4]; rfl)
  clear t4 HB4
  go_wp2_with fail
  refine wp_region_up (by kernel_rfl) (by kernel_rfl) ?_
  try simp only [List.append_eq, List.cons_append, List.nil_append]
  repeat (go_big_quiet_step ((first
    | (go_at_call 19; first
      | ((with_reducible (show Calls _ _ #[_, .int .i64 vc, .int .i64 u] _ _)); exact Calls.up_of (M3.out _))
      | ((with_reducible (show Calls _ _ #[_, .int .i64 s, .int .i64 u] _ _)); exact Calls.up_of (M9.out _)))
    | (go_at_call 51; first
      | ((with_reducible (show Calls _ _ #[_, .int .i64 vm, .int .i64 s] _ _)); exact Calls.up_of (M4.out _))
      | ((with_reducible (show Calls _ _ #[_, .int .i64 vz, .int .i64 s] _ _)); exact Calls.up_of (M5.out _))
      | ((with_reducible (show Calls _ _ #[_, .int .i64 va, .int .i64 u] _ _)); exact Calls.up_of (M6.out _))
      | ((with_reducible (show Calls _ _ #[_, .int .i64 G, .int .i64 v] _ _)); exact Calls.up_of (M7.out _))
      | ((with_reducible (show Calls _ _ #[_, .int .i64 vb, .int .i64 X9] _ _)); exact Calls.up_of (M10.out _))
      | ((with_reducible (show Calls _ _ #[_, .int .i64 p, .int .i64 v] _ _)); exact Calls.up_of (M11.out _)))
    | (go_at_call 52; first
      | ((with_reducible (show Calls _ _ #[_, .int .i64 X6, _] _ _)); exact Calls.up_of (M8.out _))
      | ((with_reducible (show Calls _ _ #[_, .int .i64 X10, _] _ _)); exact Calls.up_of (M12.out _))))))
  refine wpQuiet_nil ?_
  rintro _ ⟨p', rfl⟩
  go_wp2
  go_ret
  exact ⟨by rw [HB5.out]; rfl, HU2.out.trans p'.up⟩
end Go.Proofs.YtdbhleinhpiohaaGreatDoor
namespace Go.Proofs.YtdbhleinhpiohaaGreatDoor
open Go.RowKit Go.Sp
set_option maxHeartbeats 4000000
set_option maxRecDepth 20000

/-- What a view and a signature without faults are. -/
theorem flt_ok {P Q G A B C k1 k2 k3 m z x y c r p : Int} {root : Nat → Int} {sz sa sb sr : Int} (h : fltE (kvB P Q G A B C k1 k2 k3) (cvB P Q G A B C k1 k2 k3 m z x y c r) (verB P Q G A B C k1 k2 k3 p root sz sa sb sr) = 0) :
    bvB P Q G A B C = true ∧ (gnB P Q m = true ∧ elB P Q z = true ∧ elB P Q x = true ∧ elB P Q y = true ∧ nzB Q c = true ∧ exB Q r = true) ∧ gnB P Q p = true ∧ elB P Q sz = true ∧ elB P Q sa = true ∧ elB P Q sb = true ∧ exB Q sr = true := by
  unfold fltE at h
  split at h
  · rename_i h1
    split at h
    · rename_i h2
      split at h
      · rename_i h3
        simp only [kvB, Bool.and_eq_true] at h1
        simp only [cvB, Bool.and_eq_true] at h2
        simp only [verB, Bool.and_eq_true, List.all_cons, List.all_nil, Bool.and_true] at h3
        exact ⟨h1.1, ⟨h2.2.1, h2.2.2.1, h2.2.2.2.1, h2.2.2.2.2.1, h2.2.2.2.2.2.1, h2.2.2.2.2.2.2.1⟩, h3.2.1, h3.2.2.2.1.1, h3.2.2.2.1.2.1, h3.2.2.2.1.2.2, h3.2.2.1⟩
      · cases h
    · cases h
  · cases h

end Go.Proofs.YtdbhleinhpiohaaGreatDoor
namespace Go.Sp
/-- The strong test over naturals. -/
def sqsN (n : Nat) : Nat → Nat → Bool
  | _, 0 => false
  | x, k + 1 => x * x % n == n - 1 || sqsN n (x * x % n) k
def strongN (n a d s : Nat) : Bool := a ^ d % n == 1 || a ^ d % n == n - 1 || sqsN n (a ^ d % n) (s - 1)
def both (n : Nat) : Bool := strongN n 2 ((n - 1) / 2 ^ Lib.ctz 64 (n - 1)) (Lib.ctz 64 (n - 1)) && strongN n 3 ((n - 1) / 2 ^ Lib.ctz 64 (n - 1)) (Lib.ctz 64 (n - 1))
def primes12 : List Nat := [2, 3, 5, 7, 11, 13, 17, 19, 23, 29, 31, 37]
def ords : List (Nat × Nat) := [(41, 20), (43, 14), (47, 23), (53, 52), (59, 58), (61, 60), (67, 66), (71, 35), (73, 9), (79, 39), (83, 82), (89, 11), (97, 48), (101, 100), (103, 51), (107, 106), (109, 36), (113, 28), (127, 7), (131, 130), (137, 68), (139, 138), (149, 148), (151, 15), (157, 52), (163, 162), (167, 83), (173, 172), (179, 178), (181, 180), (191, 95), (193, 96), (197, 196), (199, 99), (211, 210), (223, 37), (227, 226), (229, 76), (233, 29), (239, 119), (241, 24), (251, 50), (257, 16), (263, 131), (269, 268), (271, 135), (277, 92), (281, 70), (283, 94), (293, 292), (307, 102), (311, 155), (313, 156), (317, 316), (331, 30), (337, 21), (347, 346), (349, 348), (353, 88), (359, 179), (367, 183), (373, 372), (379, 378), (383, 191), (389, 388), (397, 44), (401, 200), (409, 204), (419, 418), (421, 420), (431, 43), (433, 72), (439, 73), (443, 442), (449, 224), (457, 76), (461, 460), (463, 231), (467, 466), (479, 239), (487, 243), (491, 490), (499, 166), (503, 251), (509, 508), (521, 260), (523, 522), (541, 540), (547, 546), (557, 556), (563, 562), (569, 284), (571, 114), (577, 144), (587, 586), (593, 148), (599, 299), (601, 25), (607, 303), (613, 612), (617, 154), (619, 618), (631, 45), (641, 64), (643, 214), (647, 323), (653, 652), (659, 658), (661, 660), (673, 48), (677, 676), (683, 22), (691, 230), (701, 700), (709, 708), (719, 359), (727, 121), (733, 244), (739, 246), (743, 371), (751, 375), (757, 756), (761, 380), (769, 384), (773, 772), (787, 786), (797, 796), (809, 404), (811, 270), (821, 820), (823, 411), (827, 826), (829, 828), (839, 419), (853, 852), (857, 428), (859, 858), (863, 431), (877, 876), (881, 55), (883, 882), (887, 443), (907, 906), (911, 91), (919, 153), (929, 464), (937, 117), (941, 940), (947, 946), (953, 68), (967, 483), (971, 194), (977, 488), (983, 491), (991, 495), (997, 332), (1009, 504), (1013, 92), (1019, 1018), (1021, 340)]
def okQ (p : Nat × Nat) : Bool := p.1 != 0 && p.2 != 0 && 2 ^ p.2 % p.1 == 1 && (p.1 - 1) % p.2 == 0 && (List.range p.2).all (fun j => j == 0 || 2 ^ j % p.1 != 1) &&
  (List.range (1048576 / (p.1 * p.2) + 1)).all (fun i => Nat.blt (p.1 * (1 + p.2 * i)) (p.1 * p.1) || !both (p.1 * (1 + p.2 * i)))
set_option maxRecDepth 100000 in
theorem ords_ok : (ords).all okQ = true := by decide +kernel
theorem covered : (List.range 983).all (fun i => primes12.any (fun r => (41 + i) % r == 0) || ords.any (fun p => p.1 == 41 + i)) = true := by decide +kernel
end Go.Sp
namespace Go.Sp

theorem sqs_nat {n : Nat} (hn : 1 ≤ n) : ∀ (k x : Nat), sqs (n : Int) (x : Int) k = sqsN n x k
  | 0, _ => rfl
  | k + 1, x => by
    have h : (x : Int) * (x : Int) % (n : Int) = ((x * x % n : Nat) : Int) := by rw [Int.natCast_emod, Int.natCast_mul]
    simp only [sqs, sqsN]
    rw [h, sqs_nat hn k (x * x % n)]
    congr 1
    rw [Bool.eq_iff_iff]; simp; omega

theorem strong_nat {n : Nat} (hn : 1 ≤ n) (a d s : Nat) : strongB (n : Int) (a : Int) d s = strongN n a d s := by
  have h : pw (a : Int) d (n : Int) = ((a ^ d % n : Nat) : Int) := by rw [pw, Int.natCast_emod, Int.natCast_pow]
  simp only [strongB, strongN]
  rw [h, sqs_nat hn]
  generalize a ^ d % n = X
  have e1 : ((X : Int) == 1) = (X == 1) := by rw [Bool.eq_iff_iff]; simp; omega
  have e2 : ((X : Int) == (n : Int) - 1) = (X == n - 1) := by rw [Bool.eq_iff_iff]; simp; omega
  rw [e1, e2]

theorem sqsN_spec {n : Nat} : ∀ (k x : Nat), sqsN n x k = true → ∃ i, 1 ≤ i ∧ i ≤ k ∧ x ^ 2 ^ i % n = n - 1
  | 0, _, h => by cases h
  | k + 1, x, h => by
    simp only [sqsN, Bool.or_eq_true, beq_iff_eq] at h
    rcases h with h | h
    · exact ⟨1, by omega, by omega, by rw [show (2 : Nat) ^ 1 = 2 from rfl, Nat.pow_two]; exact h⟩
    · obtain ⟨i, h1, h2, h3⟩ := sqsN_spec k _ h
      refine ⟨i + 1, by omega, by omega, ?_⟩
      rw [show (2 : Nat) ^ (i + 1) = 2 * 2 ^ i by rw [Nat.pow_succ]; omega, Nat.pow_mul, Nat.pow_two, Nat.pow_mod, h3]

theorem one_of_neg {n x t : Nat} (hn : 2 ≤ n) (h : x % n = n - 1) (ht : 1 ≤ t) : x ^ 2 ^ t % n = 1 := by
  obtain ⟨u, rfl⟩ : ∃ u, t = u + 1 := ⟨t - 1, by omega⟩
  have h2 : x ^ 2 % n = 1 := by
    rw [Nat.pow_mod, h, Nat.pow_two]
    obtain ⟨m, rfl⟩ : ∃ m, n = m + 2 := ⟨n - 2, by omega⟩
    rw [show m + 2 - 1 = m + 1 by omega, show (m + 1) * (m + 1) = 1 + (m + 2) * m by grind, Nat.add_mul_mod_self_left]
    exact Nat.mod_eq_of_lt (by omega)
  rw [show (2 : Nat) ^ (u + 1) = 2 * 2 ^ u by rw [Nat.pow_succ]; omega, Nat.pow_mul, Nat.pow_mod, h2, Nat.one_pow]
  exact Nat.mod_eq_of_lt (by omega)

theorem fermat_of_strong {n d s : Nat} (hn : 2 ≤ n) (hs : 1 ≤ s) (h : strongN n 2 d s = true) : 2 ^ (2 ^ s * d) % n = 1 := by
  rw [Nat.mul_comm, Nat.pow_mul]
  simp only [strongN, Bool.or_eq_true, beq_iff_eq] at h
  rcases h with (h | h) | h
  · rw [Nat.pow_mod, h, Nat.one_pow]; exact Nat.mod_eq_of_lt (by omega)
  · exact one_of_neg hn h hs
  · obtain ⟨i, h1, h2, h3⟩ := sqsN_spec _ _ h
    rw [show s = i + (s - i) by omega, Nat.pow_add, Nat.pow_mul]
    refine one_of_neg hn ?_ (by omega)
    rw [Nat.pow_mod]; exact h3

theorem ord_dvd {q o m : Nat} (ho : 1 ≤ o) (h1 : 2 ^ o % q = 1) (hmin : ∀ j, j < o → j = 0 ∨ 2 ^ j % q ≠ 1) (hm : 2 ^ m % q = 1) : o ∣ m := by
  refine Nat.dvd_of_mod_eq_zero ?_
  have hlt := Nat.mod_lt m ho
  rcases hmin _ hlt with h | h
  · exact h
  · refine absurd ?_ h
    rw [← Nat.div_add_mod m o, Nat.pow_add, Nat.pow_mul, Nat.mul_mod, Nat.pow_mod, h1, Nat.one_pow] at hm
    by_cases hq : q = 1
    · subst hq; simp [Nat.mod_one] at hm
    · by_cases hq0 : q = 0
      · subst hq0; simpa using hm
      · rw [Nat.mod_eq_of_lt (show 1 < q by omega), Nat.one_mul, Nat.mod_mod] at hm; exact hm

theorem trial_dvd {n r : Int} (hr : r ∈ baseList) (hd : n % r = 0) : ∃ p ∈ baseList, trial baseList n = some (n == p) := by
  have key : ∀ l : List Int, (∃ r ∈ l, n % r = 0) → ∃ p ∈ l, trial l n = some (n == p) := by
    intro l
    induction l with
    | nil => rintro ⟨_, h, _⟩; cases h
    | cons p l ih =>
      rintro ⟨r, h, hr⟩
      by_cases hp : n % p = 0
      · exact ⟨p, by simp, by simp [trial, hp]⟩
      · have : ∃ r ∈ l, n % r = 0 := by
          rcases List.mem_cons.1 h with rfl | h
          · exact absurd hr hp
          · exact ⟨r, h, hr⟩
        obtain ⟨p', hp', ht⟩ := ih this
        exact ⟨p', List.mem_cons_of_mem _ hp', by simp [trial, hp, ht]⟩
  exact key _ ⟨r, hr, hd⟩

/-- What passes and is divided by one of the first primes is that prime. -/
theorem isP_base {n r : Int} (h : isP n = true) (hr : r ∈ baseList) (hd : n % r = 0) : n ∈ baseList := by
  have h2 := isP_two h
  obtain ⟨p, hp, ht⟩ := trial_dvd hr hd
  rw [isP, if_neg (by omega), ht] at h
  have : n = p := by simpa using h
  rw [this]; exact hp

theorem trial_none {n : Int} (h : ∀ r ∈ baseList, n % r ≠ 0) : trial baseList n = none := by
  have key : ∀ l : List Int, (∀ r ∈ l, n % r ≠ 0) → trial l n = none := by
    intro l
    induction l with
    | nil => intro _; rfl
    | cons p l ih => intro h; rw [trial, if_neg (h p (by simp))]; exact ih fun r hr => h r (by simp [hr])
  exact key _ h

theorem isP_strong {n a : Int} (h : isP n = true) (h0 : ∀ r ∈ baseList, n % r ≠ 0) (ha : a ∈ baseList) :
    strongB n a ((n - 1).toNat / 2 ^ Lib.ctz 64 (n - 1).toNat) (Lib.ctz 64 (n - 1).toNat) = true := by
  have h2 := isP_two h
  rw [isP, if_neg (by omega), trial_none h0] at h
  exact List.all_eq_true.1 h a ha

theorem base_cast {r : Nat} (h : r ∈ primes12) : (r : Int) ∈ baseList := by
  simp [primes12] at h
  rcases h with rfl | rfl | rfl | rfl | rfl | rfl | rfl | rfl | rfl | rfl | rfl | rfl <;> simp [baseList]

theorem base_le {n : Nat} (h : (n : Int) ∈ baseList) : n ∈ primes12 := by
  simp [baseList] at h
  simp [primes12]; omega

/-- A number below 2^20 that passes is a prime. -/
theorem small_prime {n : Nat} (h : isP (n : Int) = true) (hn : n < 1048576) {q : Nat} (hq : 2 ≤ q) (hqq : q * q ≤ n) : ¬ q ∣ n := by
  intro hd
  have hq2 : q < 1024 := by
    refine Nat.lt_of_not_le fun hle => ?_
    have := Nat.mul_le_mul hle hle
    omega
  by_cases hb : ∃ r ∈ primes12, r ∣ q
  · obtain ⟨r, hr, hrq⟩ := hb
    have hm := Nat.mod_eq_zero_of_dvd (Nat.dvd_trans hrq hd)
    have := base_le (isP_base h (base_cast hr) (by omega))
    have hqn : q < n := by
      refine Nat.lt_of_lt_of_le ?_ hqq
      exact Nat.lt_mul_self_iff.2 (by omega)
    have hmod := Nat.mod_eq_zero_of_dvd hd
    have hn38 : ∀ n ∈ primes12, n < 38 := by decide
    have key : ∀ n ∈ primes12, ∀ q, q < 38 → 2 ≤ q → q < n → n % q ≠ 0 := by decide
    have := hn38 n this
    exact key n ‹_› q (by omega) hq hqn hmod
  · have hb' : ∀ r ∈ primes12, q % r ≠ 0 := fun r hr h0 => hb ⟨r, hr, Nat.dvd_of_mod_eq_zero h0⟩
    have hq41 : 41 ≤ q := by
      refine Nat.le_of_not_lt fun hlt => ?_
      have key : ∀ q, q < 41 → 2 ≤ q → ∃ r ∈ primes12, q % r = 0 := by decide
      obtain ⟨r, hr, h0⟩ := key q hlt hq
      exact hb' r hr h0
    have hn1 : 1681 ≤ n := Nat.le_trans (Nat.mul_le_mul hq41 hq41) hqq
    have hnb : ∀ r ∈ baseList, (n : Int) % r ≠ 0 := by
      intro r hr h0
      have := base_le (isP_base h hr h0)
      have hn38 : ∀ n ∈ primes12, n < 38 := by decide
      have := hn38 n this
      omega
    obtain ⟨p, hp, hpq⟩ : ∃ p ∈ ords, p.1 = q := by
      have hc := List.all_eq_true.1 covered (q - 41) (List.mem_range.2 (by omega))
      rw [show 41 + (q - 41) = q by omega, Bool.or_eq_true] at hc
      rcases hc with hc | hc
      · obtain ⟨r, hr, h0⟩ := List.any_eq_true.1 hc
        exact absurd (by simpa using h0) (hb' r hr)
      · obtain ⟨p, hp, h0⟩ := List.any_eq_true.1 hc
        exact ⟨p, hp, by simpa using h0⟩
    have hk := List.all_eq_true.1 ords_ok p hp
    obtain ⟨q', o⟩ := p
    obtain rfl : q' = q := hpq
    simp only [okQ, Bool.and_eq_true, bne_iff_ne, ne_eq, beq_iff_eq, List.all_eq_true, List.mem_range, Bool.or_eq_true, Bool.not_eq_true', Nat.blt_eq] at hk
    obtain ⟨⟨⟨⟨⟨_, ho⟩, h1⟩, hqo⟩, hmin⟩, hcl⟩ := hk
    -- n = 2^s d + 1
    have hN : ((n : Int) - 1).toNat = n - 1 := by omega
    have S2 := isP_strong h hnb (a := 2) (by simp [baseList])
    have S3 := isP_strong h hnb (a := 3) (by simp [baseList])
    rw [hN] at S2 S3
    have T2 : strongN n 2 ((n - 1) / 2 ^ Lib.ctz 64 (n - 1)) (Lib.ctz 64 (n - 1)) = true := by rw [← strong_nat (by omega)]; exact S2
    have T3 : strongN n 3 ((n - 1) / 2 ^ Lib.ctz 64 (n - 1)) (Lib.ctz 64 (n - 1)) = true := by rw [← strong_nat (by omega)]; exact S3
    have hB : both n = true := by rw [both, T2, T3]; rfl
    have hcz : Lib.ctz 64 (n - 1) = Lib.ctzFrom 64 (n - 1) := by rw [Lib.ctz, if_neg (by omega)]
    obtain ⟨m, hm, _⟩ := Lib.ctzFrom_spec 64 (n - 1) (by omega) (by omega)
    rw [← hcz] at hm
    generalize Lib.ctz 64 (n - 1) = s at *
    have hs : 1 ≤ s := by
      refine Nat.pos_of_ne_zero fun h0 => ?_
      subst h0
      rw [Nat.pow_zero, Nat.one_mul] at hm
      exact hnb 2 (by simp [baseList]) (by omega)
    have hsd : 2 ^ s * ((n - 1) / 2 ^ s) = n - 1 := Nat.mul_div_cancel' ⟨_, hm⟩
    have hF := fermat_of_strong (by omega) hs T2
    rw [hsd] at hF
    have hFq : 2 ^ (n - 1) % q' = 1 := by
      rw [← Nat.mod_mod_of_dvd _ hd, hF]; exact Nat.mod_eq_of_lt (by omega)
    obtain ⟨u, hu⟩ := ord_dvd (by omega) h1 hmin hFq
    obtain ⟨k, rfl⟩ := hd
    obtain ⟨v, hv⟩ := Nat.dvd_of_mod_eq_zero hqo
    have hk1 : 1 ≤ k := by
      refine Nat.pos_of_ne_zero fun h0 => ?_
      subst h0
      simp at hn1
    have hko : o ∣ k - 1 := by
      have hx : o ∣ (q' - 1) * k := ⟨v * k, by rw [hv, Nat.mul_assoc]⟩
      refine (Nat.dvd_add_right hx).1 ⟨u, ?_⟩
      rw [← hu]
      obtain ⟨a, rfl⟩ : ∃ a, q' = a + 1 := ⟨q' - 1, by omega⟩
      rw [show a + 1 - 1 = a by omega, Nat.add_mul, Nat.one_mul]
      omega
    obtain ⟨i, hi⟩ := hko
    obtain rfl : k = 1 + o * i := by omega
    have hile : i < 1048576 / (q' * o) + 1 := by
      refine Nat.lt_succ_of_le ((Nat.le_div_iff_mul_le (Nat.mul_pos (by omega) (by omega))).2 ?_)
      refine Nat.le_trans ?_ (Nat.le_of_lt hn)
      rw [Nat.mul_comm i, Nat.mul_assoc]
      exact Nat.mul_le_mul_left _ (by omega)
    rcases hcl i hile with h2 | h2
    · omega
    · rw [hB] at h2; cases h2
end Go.Sp
namespace Go.Sp

/-- A prime. -/
def Prim (n : Nat) : Prop := 2 ≤ n ∧ ∀ q, 2 ≤ q → q * q ≤ n → ¬ q ∣ n

theorem Prim.div {n g : Nat} (h : Prim n) (hg : g ∣ n) : g = 1 ∨ g = n := by
  obtain ⟨c, hc⟩ := hg
  have h2 := h.1
  by_cases g1 : g = 1
  · exact Or.inl g1
  by_cases c1 : c = 1
  · right; rw [hc, c1, Nat.mul_one]
  have g0 : g ≠ 0 := fun h0 => by rw [h0, Nat.zero_mul] at hc; omega
  have c0 : c ≠ 0 := fun h0 => by rw [h0, Nat.mul_zero] at hc; omega
  exfalso
  rcases Nat.le_total g c with hle | hle
  · exact h.2 g (by omega) (by rw [hc]; exact Nat.mul_le_mul_left g hle) ⟨c, hc⟩
  · exact h.2 c (by omega) (by rw [hc]; exact Nat.mul_le_mul_right c hle) ⟨g, by rw [hc, Nat.mul_comm]⟩

theorem Prim.eu {n a b : Nat} (h : Prim n) (hd : n ∣ a * b) : n ∣ a ∨ n ∣ b := by
  rcases h.div (Nat.gcd_dvd_left n a) with h1 | h1
  · exact Or.inr ((show Nat.Coprime n a from h1).dvd_of_dvd_mul_left hd)
  · left; rw [← h1]; exact Nat.gcd_dvd_right n a

theorem Prim.eui {n : Nat} {a b : Int} (h : Prim n) (hd : (n : Int) ∣ a * b) : (n : Int) ∣ a ∨ (n : Int) ∣ b := by
  have h1 : n ∣ a.natAbs * b.natAbs := by
    rw [← Int.natAbs_mul]
    exact Int.ofNat_dvd_left.1 hd
  rcases h.eu h1 with h2 | h2
  · exact Or.inl (Int.ofNat_dvd_left.2 h2)
  · exact Or.inr (Int.ofNat_dvd_left.2 h2)

/-- A polynomial of degree n, the leading coefficient 1. -/
def Monic : Nat → (Int → Int) → Prop
  | 0, f => ∀ x, f x = 1
  | n + 1, f => ∃ c g, Monic n g ∧ ∀ x, f x = c + x * g x

theorem Monic.low : ∀ (n : Nat) (f h : Int → Int) (r : Int), Monic (n + 1) f → Monic n h → Monic (n + 1) (fun x => f x + r * h x)
  | 0, f, h, r, ⟨c, g, hg, hf⟩, hh => ⟨c + r, g, hg, fun x => by simp only [hf x, hh x]; omega⟩
  | n + 1, f, h, r, ⟨c, g, hg, hf⟩, ⟨d, k, hk, hh⟩ => ⟨c + r * d, _, Monic.low n g k r hg hk, fun x => by simp only [hf x, hh x]; grind⟩

theorem Monic.split : ∀ (n : Nat) (f : Int → Int) (r : Int), Monic (n + 1) f → ∃ g, Monic n g ∧ ∀ x, f x - f r = (x - r) * g x
  | 0, f, r, ⟨c, g, hg, hf⟩ => ⟨g, hg, fun x => by rw [hf x, hf r, hg x, hg r]; omega⟩
  | n + 1, f, r, ⟨c, g, hg, hf⟩ => by
    obtain ⟨h, hh, he⟩ := Monic.split n g r hg
    refine ⟨_, Monic.low n g h r hg hh, fun x => ?_⟩
    have := he x
    rw [hf x, hf r]
    grind

theorem Monic.roots {P : Nat} (hP : Prim P) : ∀ (n : Nat) (f : Int → Int), Monic n f → ∀ xs : List Int, xs.Nodup → (∀ x ∈ xs, 0 ≤ x ∧ x < P ∧ (P : Int) ∣ f x) → xs.length ≤ n
  | 0, f, hf, [], _, _ => by simp
  | 0, f, hf, x :: xs, _, hx => by
    obtain ⟨_, _, h⟩ := hx x (by simp)
    rw [hf x] at h
    have := Int.le_of_dvd (by omega) h
    have := hP.1
    omega
  | n + 1, f, hf, [], _, _ => by simp
  | n + 1, f, hf, r :: xs, hn, hx => by
    obtain ⟨g, hg, he⟩ := Monic.split n f r hf
    obtain ⟨hr, hn⟩ := List.nodup_cons.1 hn
    have := Monic.roots hP n g hg xs hn fun x hxm => by
      obtain ⟨r0, r1, rd⟩ := hx r (by simp)
      obtain ⟨x0, x1, xd⟩ := hx x (by simp [hxm])
      refine ⟨x0, x1, ?_⟩
      have hd : (P : Int) ∣ (x - r) * g x := by rw [← he x]; exact Int.dvd_sub xd rd
      rcases hP.eui hd with h | h
      · exfalso
        obtain ⟨k, hk⟩ := h
        have : x ≠ r := fun e => hr (e ▸ hxm)
        have hk0 : k = 0 := by
          refine Int.le_antisymm (Int.not_lt.1 fun hlt => ?_) (Int.not_lt.1 fun hlt => ?_)
          · have : (P : Int) * 1 ≤ P * k := Int.mul_le_mul_of_nonneg_left (by omega) (by omega)
            omega
          · have : (P : Int) * k ≤ P * (-1) := Int.mul_le_mul_of_nonneg_left (by omega) (by omega)
            omega
        rw [hk0] at hk; omega
      · exact h
    simp; omega

theorem monic_pow : ∀ n : Nat, Monic n (fun x => x ^ n)
  | 0 => fun x => by simp
  | n + 1 => ⟨0, fun x => x ^ n, monic_pow n, fun x => by simp only [Int.pow_succ]; rw [Int.mul_comm]; omega⟩

theorem monic_root {n : Nat} (hn : 1 ≤ n) : Monic n (fun x => x ^ n - 1) := by
  obtain ⟨m, rfl⟩ : ∃ m, n = m + 1 := ⟨n - 1, by omega⟩
  obtain ⟨c, g, hg, hf⟩ := monic_pow (m + 1)
  exact ⟨c - 1, g, hg, fun x => by have := hf x; simp only at this ⊢; omega⟩

/-- At most Q residues have the Q-th power 1. -/
theorem few_roots {P Q : Int} (hP : Prim P.toNat) (hQ : 1 ≤ Q) (xs : List Int) (hn : xs.Nodup) (hx : ∀ x ∈ xs, elB P Q x = true) : xs.length ≤ Q.toNat := by
  have h2 := hP.1
  refine Monic.roots hP Q.toNat _ (monic_root (by omega)) xs hn fun x hm => ?_
  obtain ⟨x0, x1, x2⟩ := el_iff.1 (hx x hm)
  refine ⟨by omega, by omega, ?_⟩
  rw [show ((P.toNat : Nat) : Int) = P by omega]
  rw [pw] at x2
  exact Int.dvd_of_emod_eq_zero (by rw [Int.sub_emod, x2]; simp)

/-- A power that is 1 divides: of a prime order. -/
theorem pw_one_of {P Q a : Int} (hP : 2 ≤ P) (hQ : Prim Q.toNat) (ha : elB P Q a = true) {k : Nat} (h0 : 0 < k) (h1 : k < Q.toNat) (hk : pw a k P = 1) : a = 1 := by
  obtain ⟨a0, a1, a2⟩ := el_iff.1 ha
  have hE : ∃ o : Nat, 0 < o ∧ pw a o P = 1 := ⟨k, h0, hk⟩
  have low : ∀ m : Nat, 0 < m → pw a m P = 1 → ∃ o, 0 < o ∧ o ≤ m ∧ pw a o P = 1 ∧ ∀ j, 0 < j → j < o → pw a j P ≠ 1 := by
    intro m
    induction m using Nat.strongRecOn with
    | _ m ih =>
      intro hm h
      by_cases hj : ∃ j, 0 < j ∧ j < m ∧ pw a j P = 1
      · obtain ⟨j, j0, j1, j2⟩ := hj
        obtain ⟨o, h1, h2, h3⟩ := ih j j1 j0 j2
        exact ⟨o, h1, by omega, h3⟩
      · exact ⟨m, hm, by omega, h, fun j j0 j1 j2 => hj ⟨j, j0, j1, j2⟩⟩
  obtain ⟨o, o0, o1, o2, o3⟩ := low k h0 hk
  have dv : ∀ m : Nat, pw a m P = 1 → o ∣ m := by
    intro m hm
    refine Nat.dvd_of_mod_eq_zero ?_
    refine Nat.eq_zero_of_not_pos fun hp => o3 _ hp (Nat.mod_lt _ o0) ?_
    rw [← Nat.div_add_mod m o, pw_add, pw_mul, o2, pw_one_base, Int.emod_eq_of_lt (show (0 : Int) ≤ 1 by omega) (by omega), Int.one_mul] at hm
    rw [← hm]
    exact (emod_self _ _).symm
  rcases hQ.div (dv _ a2) with h | h
  · rw [h] at o2
    rwa [pw_one_exp (by omega) a1] at o2
  · omega

theorem pw_inj {P Q a : Int} (hP : 2 ≤ P) (hQ : Prim Q.toNat) (ha : elB P Q a = true) (h1 : a ≠ 1) {i j : Nat} (hi : i < Q.toNat) (hj : j < Q.toNat) (h : pw a i P = pw a j P) : i = j := by
  have key : ∀ i j : Nat, i < j → j < Q.toNat → pw a i P = pw a j P → False := by
    intro i j hij hj h
    refine h1 (pw_one_of hP hQ ha (k := j - i) (by omega) (by omega) ?_)
    have h2 : pw a (Q.toNat - i) P * pw a i P % P = pw a (Q.toNat - i) P * pw a j P % P := by rw [h]
    rw [← pw_add, ← pw_add, show Q.toNat - i + i = Q.toNat by omega, show Q.toNat - i + j = Q.toNat + (j - i) by omega, pw_add, (el_iff.1 ha).2.2, Int.one_mul] at h2
    rw [h2]
    exact (emod_self _ _).symm
  rcases Nat.lt_trichotomy i j with h2 | h2 | h2
  · exact (key i j h2 hj h).elim
  · exact h2
  · exact (key j i h2 hi h.symm).elim

/-- The powers of an element. -/
def pows (P Q a : Int) : List Int := (List.range Q.toNat).map fun i => pw a i P

theorem pows_nodup {P Q a : Int} (hP : 2 ≤ P) (hQ : Prim Q.toNat) (ha : elB P Q a = true) (h1 : a ≠ 1) : (pows P Q a).Nodup := by
  unfold pows
  rw [List.nodup_iff_pairwise_ne, List.pairwise_map]
  refine List.Pairwise.imp_of_mem ?_ List.nodup_range
  intro i j hi hj hne h
  exact hne (pw_inj hP hQ ha h1 (List.mem_range.1 hi) (List.mem_range.1 hj) h)

/-- All elements are powers of one other than 1. -/
theorem mem_pows {P Q a x : Int} (hP : Prim P.toNat) (hQ : Prim Q.toNat) (ha : elB P Q a = true) (h1 : a ≠ 1) (hx : elB P Q x = true) : x ∈ pows P Q a := by
  have p2 := hP.1
  have q2 := hQ.1
  refine Classical.byContradiction fun hn => ?_
  have := few_roots (P := P) (Q := Q) hP (by omega) (x :: pows P Q a) (List.nodup_cons.2 ⟨hn, pows_nodup (by omega) hQ ha h1⟩) (by
    intro y hy
    rcases List.mem_cons.1 hy with rfl | hy
    · exact hx
    · obtain ⟨i, _, rfl⟩ := List.mem_map.1 hy
      exact el_pw (by omega) (by omega) ha i)
  simp [pows] at this
  omega

theorem of_mem_pows {P Q a x : Int} (hP : 2 ≤ P) (hQ : 1 ≤ Q) (ha : elB P Q a = true) (hx : x ∈ pows P Q a) : elB P Q x = true := by
  obtain ⟨i, _, rfl⟩ := List.mem_map.1 hx
  exact el_pw hP hQ ha i
end Go.Sp
