/- The reference's restrictive signatures: factors, views. -/
import Derived.Test.YtmbbnjbohnobcaaDoorResE
namespace Go.Proofs.YtmbbnjbohnobcaaDoor
open Go.RowKit Go.Sp
set_option maxHeartbeats 2000000
set_option maxRecDepth 20000

theorem r25times_ok (P Q G a b : Int) (w : World) (h0 : 0 ≤ a) (h1 : a < P) (h2 : 0 ≤ b) (h3 : b < P) (g1 : P < 2305843009213693952) :
    Calls Tryd.prog 129 #[grp P Q G, .int .i64 a, .int .i64 b] w fun r w' => r = .returned (.int .i64 (a * b % P)) ∧ Up w w' := by
  go_enter Tryd.func129, Tryd.ntmps129
  go_wp2_with fail
  refine (rMul_ok a b P _ h0 h1 h2 h3 g1).mono ?_
  rintro r w3 ⟨rfl, rfl⟩
  go_wp2
  go_ret
  exact ⟨rfl, (Up.refl w).alloc _⟩

theorem r25Factors_any (P Q G s u v : Int) (w : World) :
    Calls Tryd.prog 50 #[grp P Q G, .agg #[.int .i64 s, .int .i64 u, .int .i64 v]] w fun e w' => e = .returned (.bool (facB Q s u v)) ∧ Up w w' := by
  have HB : Hid (facB Q s u v = (decide (1 ≤ s) && (decide (s < Q) && (decide (1 ≤ u) && (decide (u < Q) && exB Q v))))) := hid (by simp [facB, nzB, Bool.and_assoc])
  generalize facB Q s u v = T at *
  by_cases q0 : s ≥ 1
  case neg =>
    have d0 : decide (s ≥ 1) = false := by simpa using q0
    have hX : T = false := by rw [HB.out, show decide (1 ≤ s) = false from d0]; rfl
    subst hX
    clear q0 HB
    go_enter Tryd.func50, Tryd.ntmps50
    go_wp2
    go_ret
    exact ⟨rfl, ((Up.refl w).alloc _).alloc _⟩
  have d0 : decide (s ≥ 1) = true := by simpa using q0
  have HB0 : Hid (T = (decide (s < Q) && (decide (1 ≤ u) && (decide (u < Q) && (exB Q v))))) := hid (by rw [HB.out, show decide (1 ≤ s) = true from d0]; rfl)
  clear HB
  by_cases q1 : s < Q
  case neg =>
    have d1 : decide (s < Q) = false := by simpa using q1
    have hX : T = false := by rw [HB0.out, show decide (s < Q) = false from d1]; rfl
    subst hX
    clear q0 q1 HB0
    go_enter Tryd.func50, Tryd.ntmps50
    go_wp2
    go_ret
    exact ⟨rfl, ((Up.refl w).alloc _).alloc _⟩
  have d1 : decide (s < Q) = true := by simpa using q1
  have HB1 : Hid (T = (decide (1 ≤ u) && (decide (u < Q) && (exB Q v)))) := hid (by rw [HB0.out, show decide (s < Q) = true from d1]; rfl)
  clear HB0
  by_cases q2 : u ≥ 1
  case neg =>
    have d2 : decide (u ≥ 1) = false := by simpa using q2
    have hX : T = false := by rw [HB1.out, show decide (1 ≤ u) = false from d2]; rfl
    subst hX
    clear q0 q1 q2 HB1
    go_enter Tryd.func50, Tryd.ntmps50
    go_wp2
    go_ret
    exact ⟨rfl, ((Up.refl w).alloc _).alloc _⟩
  have d2 : decide (u ≥ 1) = true := by simpa using q2
  have HB2 : Hid (T = (decide (u < Q) && (exB Q v))) := hid (by rw [HB1.out, show decide (1 ≤ u) = true from d2]; rfl)
  clear HB1
  by_cases q3 : u < Q
  case neg =>
    have d3 : decide (u < Q) = false := by simpa using q3
    have hX : T = false := by rw [HB2.out, show decide (u < Q) = false from d3]; rfl
    subst hX
    clear q0 q1 q2 q3 HB2
    go_enter Tryd.func50, Tryd.ntmps50
    go_wp2
    go_ret
    exact ⟨rfl, ((Up.refl w).alloc _).alloc _⟩
  have d3 : decide (u < Q) = true := by simpa using q3
  have HB3 : Hid (T = (exB Q v)) := hid (by rw [HB2.out, show decide (u < Q) = true from d3]; rfl)
  clear HB2
  clear q0 q1 q2 q3
  go_enter Tryd.func50, Tryd.ntmps50
  go_wp2_with fail
  refine (r25Scalar_any P Q G v _).mono ?_
  rintro e w1 ⟨rfl, hU1⟩
  rw [← HB3.out]
  go_wp2
  go_ret
  exact ⟨rfl, (((Up.refl w).alloc _).alloc _).trans hU1⟩

/-- Bases, a key, a view and a group, in four boxes. -/
def FourAt (w : World) (o : Nat) (P Q G A B C k1 k2 k3 m z x y c r : Int) : Prop := ViewsAt w o P Q G A B C k1 k2 k3 m z x y c r ∧ GrpAt w (o + 3) P Q G
theorem FourAt.up {w w' : World} {o : Nat} {P Q G A B C k1 k2 k3 m z x y c r : Int} (h : FourAt w o P Q G A B C k1 k2 k3 m z x y c r) (hU : Up w w') : FourAt w' o P Q G A B C k1 k2 k3 m z x y c r := ⟨h.1.up hU, h.2.up hU⟩

theorem r25CheckView_any (P Q G A B C k1 k2 k3 m z x y c r : Int) (w : World) (hP : -9223372036854775808 ≤ P) (hQ : Q ≤ 9223372036854775807) :
    Calls Tryd.prog 85 #[bas P Q G A B C, bkey k1 k2 k3, vw m z x y c r] w fun e w' => e = .returned (.bool (cvB P Q G A B C k1 k2 k3 m z x y c r)) ∧ Up w w' := by
  have HB : Hid (cvB P Q G A B C k1 k2 k3 m z x y c r = (kvB P Q G A B C k1 k2 k3 && (gnB P Q m && (elB P Q z && (elB P Q x && (elB P Q y && (decide (1 ≤ c) && (decide (c < Q) && (exB Q r && cvE P G k1 m z x y c r))))))))) := hid (by simp [cvB, nzB, Bool.and_assoc])
  generalize cvB P Q G A B C k1 k2 k3 m z x y c r = T at *
  obtain ⟨o, ho⟩ : ∃ o, w.heap.size = o := ⟨_, rfl⟩
  have HO := hid ho
  clear ho
  go_enter Tryd.func85, Tryd.ntmps85
  go_wp2_with fail
  have HV0 := hid (views_new (w := w) (t := 39) (t1 := 41) (t2 := 56) (P := P) (Q := Q) (G := G) (A := A) (B := B) (C := C) (k1 := k1) (k2 := k2) (k3 := k3) (m := m) (z := z) (x := x) (y := y) (c := c) (r := r) HO.out)
  have HU0 := hid ((((Up.refl w).alloc (.cells #[.int .i64 P, .int .i64 Q, .int .i64 G, .int .i64 A, .int .i64 B, .int .i64 C] 39)).alloc (.cells #[.int .i64 k1, .int .i64 k2, .int .i64 k3] 41)).alloc (.cells #[.int .i64 m, .int .i64 z, .int .i64 x, .int .i64 y, .int .i64 c, .int .i64 r] 56))
  have HV00 : Hid (FourAt ((((w.alloc (.cells #[.int .i64 P, .int .i64 Q, .int .i64 G, .int .i64 A, .int .i64 B, .int .i64 C] 39)).alloc (.cells #[.int .i64 k1, .int .i64 k2, .int .i64 k3] 41)).alloc (.cells #[.int .i64 m, .int .i64 z, .int .i64 x, .int .i64 y, .int .i64 c, .int .i64 r] 56)).alloc (.cells #[.int .i64 P, .int .i64 Q, .int .i64 G] 23)) o P Q G A B C k1 k2 k3 m z x y c r) := hid ⟨HV0.out.up ((Up.refl _).alloc _), nums_three (by simp [HO.out])⟩
  have HU00 := hid (HU0.out.alloc (.cells #[.int .i64 P, .int .i64 Q, .int .i64 G] 23))
  clear HV0 HU0
  refine (r25Valid_any P Q G A B C k1 k2 k3 _ hP hQ).mono ?_
  rintro e w1 ⟨rfl, hU1⟩
  have HV1 := hid (HV00.out.up hU1)
  have HU1 := hid (HU00.out.trans hU1)
  rw [HO.out]
  clear hU1 HV00 HU00
  obtain ⟨⟨⟨⟨c0, c1, c2⟩, c3, c4, c5⟩, ⟨e0, e1, e2⟩, ⟨b0, b1, b2⟩, b3, b4, b5⟩, a0, a1, a2⟩ := HV1.out
  by_cases h : kvB P Q G A B C k1 k2 k3 = true
  case neg =>
    have h' : kvB P Q G A B C k1 k2 k3 = false := by simpa using h
    have hX : T = false := by rw [HB.out, h']; rfl
    subst hX
    rw [h']
    clear h h'
    go_wp2
    go_ret
    exact ⟨rfl, HU1.out⟩
  have HB1 : Hid (T = (gnB P Q m && (elB P Q z && (elB P Q x && (elB P Q y && (decide (1 ≤ c) && (decide (c < Q) && (exB Q r && (cvE P G k1 m z x y c r))))))))) := hid (by rw [HB.out, h]; rfl)
  have C1 := hid h
  rw [h]
  clear h HB
  obtain ⟨hbv, hk1, hk2, hk3⟩ : bvB P Q G A B C = true ∧ gnB P Q k1 = true ∧ gnB P Q k2 = true ∧ gnB P Q k3 = true := by
    have := C1.out
    simp only [kvB, Bool.and_eq_true] at this
    exact this
  have g := gv_iff.1 (bv_iff.1 hbv).1
  have g1 := g.P61
  have g2 := g.P4
  have g3 := g.Q3
  have g5 := g.G2
  have g6 := g.GP
  have HK1 := hid (gn_el hk1)
  clear hbv hk1 hk2 hk3 g
  go_wp2_with fail
  refine (r25Message_any P Q G m _ g1 (by omega) hQ).mono ?_
  rintro e w2 ⟨rfl, hU2⟩
  have HV2 := hid (HV1.out.up hU2)
  have HU2 := hid (HU1.out.trans hU2)
  clear hU2 c0 c1 c2 c3 c4 c5 e0 e1 e2 b0 b1 b2 b3 b4 b5 a0 a1 a2 HV1
  obtain ⟨⟨⟨⟨c0, c1, c2⟩, c3, c4, c5⟩, ⟨e0, e1, e2⟩, ⟨b0, b1, b2⟩, b3, b4, b5⟩, a0, a1, a2⟩ := HV2.out
  by_cases h : gnB P Q m = true
  case neg =>
    have h' : gnB P Q m = false := by simpa using h
    have hX : T = false := by rw [HB1.out, h']; rfl
    subst hX
    rw [h']
    clear h h'
    go_wp2
    go_ret
    exact ⟨rfl, HU2.out⟩
  have HB2 : Hid (T = (elB P Q z && (elB P Q x && (elB P Q y && (decide (1 ≤ c) && (decide (c < Q) && (exB Q r && (cvE P G k1 m z x y c r)))))))) := hid (by rw [HB1.out, h]; rfl)
  have C2 := hid h
  rw [h]
  clear h HB1
  go_wp2_with fail
  refine (rMember_any P Q G z _ g1 (by omega) hQ).mono ?_
  rintro e w3 ⟨rfl, hU3⟩
  have HV3 := hid (HV2.out.up hU3)
  have HU3 := hid (HU2.out.trans hU3)
  clear hU3 c0 c1 c2 c3 c4 c5 e0 e1 e2 b0 b1 b2 b3 b4 b5 a0 a1 a2 HV2
  obtain ⟨⟨⟨⟨c0, c1, c2⟩, c3, c4, c5⟩, ⟨e0, e1, e2⟩, ⟨b0, b1, b2⟩, b3, b4, b5⟩, a0, a1, a2⟩ := HV3.out
  by_cases h : elB P Q z = true
  case neg =>
    have h' : elB P Q z = false := by simpa using h
    have hX : T = false := by rw [HB2.out, h']; rfl
    subst hX
    rw [h']
    clear h h'
    go_wp2
    go_ret
    exact ⟨rfl, HU3.out⟩
  have HB3 : Hid (T = (elB P Q x && (elB P Q y && (decide (1 ≤ c) && (decide (c < Q) && (exB Q r && (cvE P G k1 m z x y c r))))))) := hid (by rw [HB2.out, h]; rfl)
  have C3 := hid h
  rw [h]
  clear h HB2
  go_wp2_with fail
  refine (rMember_any P Q G x _ g1 (by omega) hQ).mono ?_
  rintro e w4 ⟨rfl, hU4⟩
  have HV4 := hid (HV3.out.up hU4)
  have HU4 := hid (HU3.out.trans hU4)
  clear hU4 c0 c1 c2 c3 c4 c5 e0 e1 e2 b0 b1 b2 b3 b4 b5 a0 a1 a2 HV3
  obtain ⟨⟨⟨⟨c0, c1, c2⟩, c3, c4, c5⟩, ⟨e0, e1, e2⟩, ⟨b0, b1, b2⟩, b3, b4, b5⟩, a0, a1, a2⟩ := HV4.out
  by_cases h : elB P Q x = true
  case neg =>
    have h' : elB P Q x = false := by simpa using h
    have hX : T = false := by rw [HB3.out, h']; rfl
    subst hX
    rw [h']
    clear h h'
    go_wp2
    go_ret
    exact ⟨rfl, HU4.out⟩
  have HB4 : Hid (T = (elB P Q y && (decide (1 ≤ c) && (decide (c < Q) && (exB Q r && (cvE P G k1 m z x y c r)))))) := hid (by rw [HB3.out, h]; rfl)
  have C4 := hid h
  rw [h]
  clear h HB3
  go_wp2_with fail
  refine (rMember_any P Q G y _ g1 (by omega) hQ).mono ?_
  rintro e w5 ⟨rfl, hU5⟩
  have HV5 := hid (HV4.out.up hU5)
  have HU5 := hid (HU4.out.trans hU5)
  clear hU5 c0 c1 c2 c3 c4 c5 e0 e1 e2 b0 b1 b2 b3 b4 b5 a0 a1 a2 HV4
  obtain ⟨⟨⟨⟨c0, c1, c2⟩, c3, c4, c5⟩, ⟨e0, e1, e2⟩, ⟨b0, b1, b2⟩, b3, b4, b5⟩, a0, a1, a2⟩ := HV5.out
  by_cases h : elB P Q y = true
  case neg =>
    have h' : elB P Q y = false := by simpa using h
    have hX : T = false := by rw [HB4.out, h']; rfl
    subst hX
    rw [h']
    clear h h'
    go_wp2
    go_ret
    exact ⟨rfl, HU5.out⟩
  have HB5 : Hid (T = (decide (1 ≤ c) && (decide (c < Q) && (exB Q r && (cvE P G k1 m z x y c r))))) := hid (by rw [HB4.out, h]; rfl)
  have C5 := hid h
  rw [h]
  clear h HB4
  by_cases q0 : c < 1
  case pos =>
    have d0 : decide (c < 1) = true := by simpa using q0
    have hX : T = false := by rw [HB5.out, show decide (1 ≤ c) = false by simp; omega]; rfl
    subst hX
    clear q0
    go_wp2
    go_ret
    exact ⟨rfl, HU5.out⟩
  have d0 : decide (c < 1) = false := by simpa using q0
  have HB6 : Hid (T = (decide (c < Q) && (exB Q r && (cvE P G k1 m z x y c r)))) := hid (by rw [HB5.out, show decide (1 ≤ c) = true by simp; omega]; rfl)
  clear HB5
  by_cases q1 : c ≥ Q
  case pos =>
    have d1 : decide (c ≥ Q) = true := by simpa using q1
    have hX : T = false := by rw [HB6.out, show decide (c < Q) = false by simp; omega]; rfl
    subst hX
    clear q0 q1
    go_wp2
    go_ret
    exact ⟨rfl, HU5.out⟩
  have d1 : decide (c ≥ Q) = false := by simpa using q1
  have HB7 : Hid (T = (exB Q r && (cvE P G k1 m z x y c r))) := hid (by rw [HB6.out, show decide (c < Q) = true by simp; omega]; rfl)
  clear HB6
  go_wp2_with fail
  refine (r25Scalar_any P Q G r _).mono ?_
  rintro e w6 ⟨rfl, hU6⟩
  have HV6 := hid (HV5.out.up hU6)
  have HU6 := hid (HU5.out.trans hU6)
  clear hU6 c0 c1 c2 c3 c4 c5 e0 e1 e2 b0 b1 b2 b3 b4 b5 a0 a1 a2 HV5
  obtain ⟨⟨⟨⟨c0, c1, c2⟩, c3, c4, c5⟩, ⟨e0, e1, e2⟩, ⟨b0, b1, b2⟩, b3, b4, b5⟩, a0, a1, a2⟩ := HV6.out
  by_cases h : exB Q r = true
  case neg =>
    have h' : exB Q r = false := by simpa using h
    have hX : T = false := by rw [HB7.out, h']; rfl
    subst hX
    rw [h']
    clear h h'
    go_wp2
    go_ret
    exact ⟨rfl, HU6.out⟩
  have HB6 : Hid (T = (cvE P G k1 m z x y c r)) := hid (by rw [HB7.out, h]; rfl)
  have C6 := hid h
  rw [h]
  clear h HB7
  obtain ⟨z0, z1, _⟩ := el_iff.1 C3.out
  obtain ⟨x0, x1, _⟩ := el_iff.1 C4.out
  obtain ⟨y0, y1, _⟩ := el_iff.1 C5.out
  obtain ⟨k0, k9, _⟩ := el_iff.1 HK1.out
  obtain ⟨m0, m1, _⟩ := el_iff.1 (gn_el C2.out)
  obtain ⟨r0, r1⟩ := exB_iff.1 C6.out
  have M1 := hid (fun w' => r25power_ok P Q G G r w' (by omega) g6 (by omega) (by omega) g1)
  have M2 := hid (fun w' => r25power_ok P Q G k1 c w' (by omega) k9 (by omega) (by omega) g1)
  have M3 := hid (fun w' => r25power_ok P Q G m r w' (by omega) m1 (by omega) (by omega) g1)
  have M4 := hid (fun w' => r25power_ok P Q G z c w' (by omega) z1 (by omega) (by omega) g1)
  obtain ⟨u0, u1⟩ := pwi_range (P := P) (a := k1) (e := c) (by omega)
  obtain ⟨v0, v1⟩ := pwi_range (P := P) (a := z) (e := c) (by omega)
  have HE : Hid (T = (pwi P G r == pwi P k1 c * x % P && pwi P m r == pwi P z c * y % P)) := HB6
  generalize pwi P G r = l1 at *
  generalize pwi P k1 c = u at *
  generalize pwi P m r = l2 at *
  generalize pwi P z c = v at *
  have M5 := hid (fun w' => r25times_ok P Q G u x w' u0 u1 (by omega) x1 g1)
  have M6 := hid (fun w' => r25times_ok P Q G v y w' v0 v1 (by omega) y1 g1)
  generalize u * x % P = r1' at *
  generalize v * y % P = r2' at *
  have fc0 := cellF c0
  have fc1 := cellF c1
  have fc2 := cellF c2
  have fc3 := cellF c3
  have fc4 := cellF c4
  have fc5 := cellF c5
  have fe0 := cellF e0
  have fe1 := cellF e1
  have fe2 := cellF e2
  have fb0 := cellF b0
  have fb1 := cellF b1
  have fb2 := cellF b2
  have fb3 := cellF b3
  have fb4 := cellF b4
  have fb5 := cellF b5
  have fa0 := cellF a0
  have fa1 := cellF a1
  have fa2 := cellF a2
  clear c0 c1 c2 c3 c4 c5 e0 e1 e2 b0 b1 b2 b3 b4 b5 a0 a1 a2 z0 z1 x0 x1 y0 y1 k0 k9 m0 m1 r0 r1 HB6 g1 g2 g3 g5 g6 u0 u1 v0 v1 d0 d1 q0 q1
  by_cases hq : l1 = r1'
  · have d : (l1 == r1') = true := by simpa using hq
    have HX : Hid (T = (l2 == r2')) := hid (by rw [HE.out, d]; rfl)
    clear hq HE
    go_wp2_with fail
    refine wp_region_up (by kernel_rfl) (by kernel_rfl) ?_
    repeat (go_big_quiet_step ((first
      | (go_at_call 81; first
        | ((with_reducible (show Calls _ _ #[_, .int .i64 G, _] _ _)); exact Calls.up_of (M1.out _))
        | ((with_reducible (show Calls _ _ #[_, .int .i64 k1, _] _ _)); exact Calls.up_of (M2.out _))
        | ((with_reducible (show Calls _ _ #[_, .int .i64 m, _] _ _)); exact Calls.up_of (M3.out _))
        | ((with_reducible (show Calls _ _ #[_, .int .i64 z, _] _ _)); exact Calls.up_of (M4.out _)))
      | (go_at_call 129; first
        | ((with_reducible (show Calls _ _ #[_, .int .i64 u, _] _ _)); exact Calls.up_of (M5.out _))
        | ((with_reducible (show Calls _ _ #[_, .int .i64 v, _] _ _)); exact Calls.up_of (M6.out _))))))
    refine wpQuiet_nil ?_
    rintro _ ⟨p, rfl⟩
    go_wp2
    go_ret
    exact ⟨by rw [HX.out]; rfl, HU6.out.trans p.up⟩
  · have d : (l1 == r1') = false := by simpa using hq
    have hX : T = false := by rw [HE.out, d]; rfl
    subst hX
    clear hq HE
    go_wp2_with fail
    refine wp_region_up (by kernel_rfl) (by kernel_rfl) ?_
    repeat (go_big_quiet_step ((first
      | (go_at_call 81; first
        | ((with_reducible (show Calls _ _ #[_, .int .i64 G, _] _ _)); exact Calls.up_of (M1.out _))
        | ((with_reducible (show Calls _ _ #[_, .int .i64 k1, _] _ _)); exact Calls.up_of (M2.out _))
        | ((with_reducible (show Calls _ _ #[_, .int .i64 m, _] _ _)); exact Calls.up_of (M3.out _))
        | ((with_reducible (show Calls _ _ #[_, .int .i64 z, _] _ _)); exact Calls.up_of (M4.out _)))
      | (go_at_call 129; first
        | ((with_reducible (show Calls _ _ #[_, .int .i64 u, _] _ _)); exact Calls.up_of (M5.out _))
        | ((with_reducible (show Calls _ _ #[_, .int .i64 v, _] _ _)); exact Calls.up_of (M6.out _))))))
    refine wpQuiet_nil ?_
    rintro _ ⟨p, rfl⟩
    go_wp2
    go_ret
    exact ⟨rfl, HU6.out.trans p.up⟩
end Go.Proofs.YtmbbnjbohnobcaaDoor
