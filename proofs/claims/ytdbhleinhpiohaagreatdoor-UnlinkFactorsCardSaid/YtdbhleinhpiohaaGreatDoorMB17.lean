/- The reference's restrictive signatures: which are right. A row loaded in a region that draws its order, walked once. Over any program. Parts of slices. A part of a slice of integers, as one value that nobody looks into. Package unlink: the methods of a field; the first error. -/
import Derived.Test.YtdbhleinhpiohaaGreatDoorMB13
import Derived.Test.YtdbhleinhpiohaaGreatDoorMB16
import Derived.Test.YtdbhleinhpiohaaGreatDoorMB5
import Derived.Test.YtdbhleinhpiohaaGreatDoorMB8
import Derived.Laws.Rows
namespace Go.Proofs.YtdbhleinhpiohaaGreatDoor
open Go.RowKit Go.Sp
set_option maxHeartbeats 4000000
set_option maxRecDepth 20000

theorem r25elements_any (P Q G z a b r : Int) (w : World) (g1 : P < 2305843009213693952) (g3 : 0 ≤ Q) (hQ : Q ≤ 9223372036854775807) :
    Calls Tryz.prog 59 #[grp P Q G, sgn z a b r] w fun e w' => e = .returned (.bool ([z, a, b].all (elB P Q))) ∧ Up w w' := by
  have HB0 : Hid ([z, a, b].all (elB P Q) = (elB P Q z && (elB P Q a && elB P Q b))) := hid (by simp)
  generalize [z, a, b].all (elB P Q) = T at *
  go_enter Tryz.func59, Tryz.ntmps59
  go_wp2_with fail
  obtain ⟨o, ho⟩ : ∃ o, w.heap.size = o := ⟨_, rfl⟩
  refine (rMember_any P Q G z _ g1 g3 hQ).mono ?_
  rintro e w1 ⟨rfl, hU1⟩
  have HD1 := hid (((nums_three (w := w) (r := o) (t := 23) ho).up ((Up.refl _).alloc _)).up hU1)
  have HS1 := hid (((Blk.new (g := o + 1) (t := 33) (by simp [ho]) rfl)).up hU1)
  have HU1 := hid ((((Up.refl w).alloc _).alloc _).trans hU1)
  clear hU1
  rw [ho]
  clear ho
  obtain ⟨a0, a1, a2⟩ := HD1.out
  have s0 := HS1.out.val (i := 0) rfl
  have s1 := HS1.out.val (i := 1) rfl
  have s2 := HS1.out.val (i := 2) rfl
  have s3 := HS1.out.val (i := 3) rfl
  by_cases h : elB P Q z = true
  case neg =>
    have h' : elB P Q z = false := by simpa using h
    have hX : T = false := by rw [HB0.out, h']; rfl
    subst hX
    rw [h']
    clear h h'
    go_wp2
    go_ret
    exact ⟨rfl, HU1.out⟩
  have HB1 : Hid (T = (elB P Q a && elB P Q b)) := hid (by rw [HB0.out, h]; rfl)
  have C1 := hid h
  rw [h]
  clear h HB0
  go_wp2_with fail
  refine (rMember_any P Q G a _ g1 g3 hQ).mono ?_
  rintro e w2 ⟨rfl, hU2⟩
  have HD2 := hid (HD1.out.up hU2)
  have HS2 := hid (HS1.out.up hU2)
  have HU2 := hid (HU1.out.trans hU2)
  clear hU2 HD1 HS1 HU1 a0 a1 a2 s0 s1 s2 s3
  obtain ⟨a0, a1, a2⟩ := HD2.out
  have s0 := HS2.out.val (i := 0) rfl
  have s1 := HS2.out.val (i := 1) rfl
  have s2 := HS2.out.val (i := 2) rfl
  have s3 := HS2.out.val (i := 3) rfl
  by_cases h : elB P Q a = true
  case neg =>
    have h' : elB P Q a = false := by simpa using h
    have hX : T = false := by rw [HB1.out, h']; rfl
    subst hX
    rw [h']
    clear h h'
    go_wp2
    go_ret
    exact ⟨rfl, HU2.out⟩
  have HB2 : Hid (T = (elB P Q b)) := hid (by rw [HB1.out, h]; rfl)
  have C2 := hid h
  rw [h]
  clear h HB1
  go_wp2_with fail
  refine (rMember_any P Q G b _ g1 g3 hQ).mono ?_
  rintro e w3 ⟨rfl, hU3⟩
  have HD3 := hid (HD2.out.up hU3)
  have HS3 := hid (HS2.out.up hU3)
  have HU3 := hid (HU2.out.trans hU3)
  clear hU3 HD2 HS2 HU2 a0 a1 a2 s0 s1 s2 s3
  obtain ⟨a0, a1, a2⟩ := HD3.out
  have s0 := HS3.out.val (i := 0) rfl
  have s1 := HS3.out.val (i := 1) rfl
  have s2 := HS3.out.val (i := 2) rfl
  have s3 := HS3.out.val (i := 3) rfl
  rw [← HB2.out]
  go_wp2
  go_ret
  exact ⟨rfl, HU3.out⟩

theorem r25Verify_any (P Q G A B C k1 k2 k3 p : Int) (root : Nat → Int) (z a b r : Int) (w : World) (hP : -9223372036854775808 ≤ P) (hQ : Q ≤ 9223372036854775807) (hR : Byt root) :
    Calls Tryz.prog 23 #[bas P Q G A B C, bkey k1 k2 k3, .int .i64 p, hashV root, sgn z a b r] w fun e w' => e = .returned (.bool (verB P Q G A B C k1 k2 k3 p root z a b r)) ∧ Up w w' := by
  have HB0 : Hid (verB P Q G A B C k1 k2 k3 p root z a b r = (kvB P Q G A B C k1 k2 k3 && (gnB P Q p && ([z, a, b].all (elB P Q) && (exB Q r && (coinC P Q G A B C p root z a b != 0 && cvE P G k1 p z a b (coinC P Q G A B C p root z a b) r)))))) := hid (by
    unfold verB
    cases exB Q r <;> cases [z, a, b].all (elB P Q) <;> rfl)
  generalize verB P Q G A B C k1 k2 k3 p root z a b r = T at *
  have HCh := hid (fun w' (h0 : 1 ≤ Q) (h1 : Q < 2305843009213693952) => rChallenge_any P Q G A B C p root z a b r w' h0 h1 hR)
  have HR := hid hR
  obtain ⟨cs, hcs⟩ : ∃ cs, arrK .u8 root 32 = cs := ⟨_, rfl⟩
  have HCz : Hid ((Tryz.prog.info? 31).map (·.size) = some cs.size) := hid (by rw [← hcs, arrK_size]; kernel_rfl)
  unfold hashV at HCh ⊢
  rw [hcs] at HCh ⊢
  obtain ⟨o, ho⟩ : ∃ o, w.heap.size = o := ⟨_, rfl⟩
  have HO := hid ho
  obtain ⟨o1, ho1⟩ : ∃ o1, o + 1 = o1 := ⟨_, rfl⟩
  obtain ⟨o2, ho2⟩ : ∃ o2, o1 + 1 = o2 := ⟨_, rfl⟩
  obtain ⟨o3, ho3⟩ : ∃ o3, o2 + 1 = o3 := ⟨_, rfl⟩
  obtain ⟨o4, ho4⟩ : ∃ o4, o3 + 1 = o4 := ⟨_, rfl⟩
  have HO1 := hid ho1
  have HO2 := hid ho2
  have HO3 := hid ho3
  have HO4 := hid ho4
  clear hR hcs ho ho1 ho2 ho3 ho4
  go_enter Tryz.func23, Tryz.ntmps23
  go_wp2_with fail
  refine (r25Valid_any P Q G A B C k1 k2 k3 _ hP hQ).mono ?_
  rintro e w1 ⟨rfl, hU1⟩
  have HA1 := hid (((nums_six (w := w) (t := 25) HO.out).up (((((Up.refl _).alloc _).alloc _).alloc _).alloc _)).up hU1)
  have HY1 := hid (((nums_three (r := o1) (t := 27) (by have := HO.out; have := HO1.out; have := HO2.out; have := HO3.out; have := HO4.out; simp; omega)).up ((((Up.refl _).alloc _).alloc _).alloc _)).up hU1)
  have HC1 := hid (((Blk.new (g := o2) (t := 31) (by have := HO.out; have := HO1.out; have := HO2.out; have := HO3.out; have := HO4.out; simp; omega) rfl).up (((Up.refl _).alloc _).alloc _)).up hU1)
  have HS1 := hid (((Blk.new (g := o3) (t := 33) (by have := HO.out; have := HO1.out; have := HO2.out; have := HO3.out; have := HO4.out; simp; omega) rfl).up ((Up.refl _).alloc _)).up hU1)
  have HD1 := hid (((nums_three (r := o4) (t := 23) (by have := HO.out; have := HO1.out; have := HO2.out; have := HO3.out; have := HO4.out; simp; omega))).up hU1)
  have HU1 := hid (((((((Up.refl w).alloc _).alloc _).alloc _).alloc _).alloc _).trans hU1)
  clear hU1
  rw [HO.out, HO1.out, HO2.out, HO3.out, HO4.out]
  obtain ⟨⟨c0, c1, c2⟩, c3, c4, c5⟩ := HA1.out
  obtain ⟨e0, e1, e2⟩ := HY1.out
  have s0 := HS1.out.val (i := 0) rfl
  have s1 := HS1.out.val (i := 1) rfl
  have s2 := HS1.out.val (i := 2) rfl
  have s3 := HS1.out.val (i := 3) rfl
  obtain ⟨a0, a1, a2⟩ := HD1.out
  by_cases h : kvB P Q G A B C k1 k2 k3 = true
  case neg =>
    have h' : kvB P Q G A B C k1 k2 k3 = false := by simpa using h
    have hX : T = false := by rw [HB0.out, h']; rfl
    subst hX
    rw [h']
    clear h h'
    go_wp2
    go_ret
    exact ⟨rfl, HU1.out⟩
  have HB1 : Hid (T = (gnB P Q p && ([z, a, b].all (elB P Q) && (exB Q r && (coinC P Q G A B C p root z a b != 0 && cvE P G k1 p z a b (coinC P Q G A B C p root z a b) r))))) := hid (by rw [HB0.out, h]; rfl)
  have C1 := hid h
  rw [h]
  clear h HB0
  obtain ⟨hbv, hk1, hk2, hk3⟩ : bvB P Q G A B C = true ∧ gnB P Q k1 = true ∧ gnB P Q k2 = true ∧ gnB P Q k3 = true := by
    have := C1.out
    simp only [kvB, Bool.and_eq_true] at this
    exact this
  have Hbv := hid hbv
  have g := gv_iff.1 (bv_iff.1 hbv).1
  have g1 := g.P61
  have g2 := g.P4
  have g3 := g.Q3
  have g4 := g.QP
  have g5 := g.G2
  have g6 := g.GP
  have HK1 := hid (gn_el hk1)
  clear hbv hk1 hk2 hk3 g
  go_wp2_with fail
  refine (r25Message_any P Q G p _ g1 (by omega) hQ).mono ?_
  rintro e w2 ⟨rfl, hU2⟩
  have HA2 := hid (HA1.out.up hU2)
  have HY2 := hid (HY1.out.up hU2)
  have HC2 := hid (HC1.out.up hU2)
  have HS2 := hid (HS1.out.up hU2)
  have HD2 := hid (HD1.out.up hU2)
  have HU2 := hid (HU1.out.trans hU2)
  clear hU2 HA1 HY1 HC1 HS1 HD1 HU1 c0 c1 c2 c3 c4 c5 e0 e1 e2 s0 s1 s2 s3 a0 a1 a2
  obtain ⟨⟨c0, c1, c2⟩, c3, c4, c5⟩ := HA2.out
  obtain ⟨e0, e1, e2⟩ := HY2.out
  have s0 := HS2.out.val (i := 0) rfl
  have s1 := HS2.out.val (i := 1) rfl
  have s2 := HS2.out.val (i := 2) rfl
  have s3 := HS2.out.val (i := 3) rfl
  obtain ⟨a0, a1, a2⟩ := HD2.out
  by_cases h : gnB P Q p = true
  case neg =>
    have h' : gnB P Q p = false := by simpa using h
    have hX : T = false := by rw [HB1.out, h']; rfl
    subst hX
    rw [h']
    clear h h'
    go_wp2
    go_ret
    exact ⟨rfl, HU2.out⟩
  have HB2 : Hid (T = ([z, a, b].all (elB P Q) && (exB Q r && (coinC P Q G A B C p root z a b != 0 && cvE P G k1 p z a b (coinC P Q G A B C p root z a b) r)))) := hid (by rw [HB1.out, h]; rfl)
  have C2 := hid h
  rw [h]
  clear h HB1
  go_wp2_with fail
  refine (r25elements_any P Q G z a b r _ g1 (by omega) hQ).mono ?_
  rintro e w3 ⟨rfl, hU3⟩
  have HA3 := hid (HA2.out.up hU3)
  have HY3 := hid (HY2.out.up hU3)
  have HC3 := hid (HC2.out.up hU3)
  have HS3 := hid (HS2.out.up hU3)
  have HD3 := hid (HD2.out.up hU3)
  have HU3 := hid (HU2.out.trans hU3)
  clear hU3 HA2 HY2 HC2 HS2 HD2 HU2 c0 c1 c2 c3 c4 c5 e0 e1 e2 s0 s1 s2 s3 a0 a1 a2
  obtain ⟨⟨c0, c1, c2⟩, c3, c4, c5⟩ := HA3.out
  obtain ⟨e0, e1, e2⟩ := HY3.out
  have s0 := HS3.out.val (i := 0) rfl
  have s1 := HS3.out.val (i := 1) rfl
  have s2 := HS3.out.val (i := 2) rfl
  have s3 := HS3.out.val (i := 3) rfl
  obtain ⟨a0, a1, a2⟩ := HD3.out
  by_cases h : [z, a, b].all (elB P Q) = true
  case neg =>
    have h' : [z, a, b].all (elB P Q) = false := by simpa using h
    have hX : T = false := by rw [HB2.out, h']; rfl
    subst hX
    rw [h']
    clear h h'
    go_wp2
    go_ret
    exact ⟨rfl, HU3.out⟩
  have HB3 : Hid (T = (exB Q r && (coinC P Q G A B C p root z a b != 0 && cvE P G k1 p z a b (coinC P Q G A B C p root z a b) r))) := hid (by rw [HB2.out, h]; rfl)
  have C3 := hid h
  rw [h]
  clear h HB2
  go_wp2_with fail
  refine (r25Scalar_any P Q G r _).mono ?_
  rintro e w4 ⟨rfl, hU4⟩
  have HA4 := hid (HA3.out.up hU4)
  have HY4 := hid (HY3.out.up hU4)
  have HC4 := hid (HC3.out.up hU4)
  have HS4 := hid (HS3.out.up hU4)
  have HD4 := hid (HD3.out.up hU4)
  have HU4 := hid (HU3.out.trans hU4)
  clear hU4 HA3 HY3 HC3 HS3 HD3 HU3 c0 c1 c2 c3 c4 c5 e0 e1 e2 s0 s1 s2 s3 a0 a1 a2
  obtain ⟨⟨c0, c1, c2⟩, c3, c4, c5⟩ := HA4.out
  obtain ⟨e0, e1, e2⟩ := HY4.out
  have s0 := HS4.out.val (i := 0) rfl
  have s1 := HS4.out.val (i := 1) rfl
  have s2 := HS4.out.val (i := 2) rfl
  have s3 := HS4.out.val (i := 3) rfl
  obtain ⟨a0, a1, a2⟩ := HD4.out
  by_cases h : exB Q r = true
  case neg =>
    have h' : exB Q r = false := by simpa using h
    have hX : T = false := by rw [HB3.out, h']; rfl
    subst hX
    rw [h']
    clear h h'
    go_wp2
    go_ret
    exact ⟨rfl, HU4.out⟩
  have HB4 : Hid (T = (coinC P Q G A B C p root z a b != 0 && cvE P G k1 p z a b (coinC P Q G A B C p root z a b) r)) := hid (by rw [HB3.out, h]; rfl)
  have C4 := hid h
  rw [h]
  clear h HB3
  obtain ⟨hz, hx, hy⟩ : elB P Q z = true ∧ elB P Q a = true ∧ elB P Q b = true := by simpa using C3.out
  have HCh2 := hid (fun w' => HCh.out w' (by omega) (by omega))
  obtain ⟨v0, v1⟩ := coinC_range P G A B C p root z a b (Q := Q) (by omega)
  generalize coinC P Q G A B C p root z a b = V at *
  clear HCh
  go_wp2_with (refine wpList_load_row rfl 31 _ rfl o2 rfl 31 cs (0, 0) _ HC4.out Tryz.underlying31 rfl HCz.out ?_)
  refine (HCh2.out _).mono ?_
  rintro e w5 ⟨rfl, hU5⟩
  have HA5 := hid (HA4.out.up hU5)
  have HY5 := hid (HY4.out.up hU5)
  have HC5 := hid (HC4.out.up hU5)
  have HS5 := hid (HS4.out.up hU5)
  have HD5 := hid (HD4.out.up hU5)
  have HU5 := hid (HU4.out.trans hU5)
  clear hU5 HA4 HY4 HC4 HS4 HD4 HU4 c0 c1 c2 c3 c4 c5 e0 e1 e2 s0 s1 s2 s3 a0 a1 a2
  obtain ⟨⟨c0, c1, c2⟩, c3, c4, c5⟩ := HA5.out
  obtain ⟨e0, e1, e2⟩ := HY5.out
  have s0 := HS5.out.val (i := 0) rfl
  have s1 := HS5.out.val (i := 1) rfl
  have s2 := HS5.out.val (i := 2) rfl
  have s3 := HS5.out.val (i := 3) rfl
  obtain ⟨a0, a1, a2⟩ := HD5.out
  by_cases hv : V = 0
  case pos =>
    have dV : (V != 0) = false := by simpa using hv
    have hX : T = false := by rw [HB4.out, dV]; rfl
    subst hX
    clear hv
    have fc0 := cellF c0
    have fc1 := cellF c1
    have fc2 := cellF c2
    have fc3 := cellF c3
    have fc4 := cellF c4
    have fc5 := cellF c5
    have fe0 := cellF e0
    have fe1 := cellF e1
    have fe2 := cellF e2
    have fs0 := cellF s0
    have fs1 := cellF s1
    have fs2 := cellF s2
    have fs3 := cellF s3
    have fa0 := cellF a0
    have fa1 := cellF a1
    have fa2 := cellF a2
    clear c0 c1 c2 c3 c4 c5 e0 e1 e2 s0 s1 s2 s3 a0 a1 a2 hz hx hy v0 v1 g1 g2 g3 g4 g5 g6
    go_wp2_with fail
    refine wp_region_up (by kernel_rfl) (by kernel_rfl) ?_
    repeat (go_big_quiet_step (fail))
    refine wpQuiet_nil ?_
    rintro _ ⟨p', rfl⟩
    go_wp2
    go_ret
    exact ⟨rfl, HU5.out.trans p'.up⟩
  have dV : (V != 0) = true := by simpa using hv
  have HB5 : Hid (T = (pwi P G r == pwi P k1 V * a % P && pwi P p r == pwi P z V * b % P)) := hid (by rw [HB4.out, dV]; rfl)
  clear hv
  obtain ⟨z0, z1, _⟩ := el_iff.1 hz
  obtain ⟨x0, x1, _⟩ := el_iff.1 hx
  obtain ⟨y0, y1, _⟩ := el_iff.1 hy
  obtain ⟨k0, k9, _⟩ := el_iff.1 HK1.out
  obtain ⟨m0, m1, _⟩ := el_iff.1 (gn_el C2.out)
  obtain ⟨r0, r1⟩ := exB_iff.1 C4.out
  have M1 := hid (fun w' => r25power_ok P Q G G r w' (by omega) g6 (by omega) (by omega) g1)
  have M2 := hid (fun w' => r25power_ok P Q G k1 V w' (by omega) k9 (by omega) (by omega) g1)
  have M3 := hid (fun w' => r25power_ok P Q G p r w' (by omega) m1 (by omega) (by omega) g1)
  have M4 := hid (fun w' => r25power_ok P Q G z V w' (by omega) z1 (by omega) (by omega) g1)
  obtain ⟨u0, u1⟩ := pwi_range (P := P) (a := k1) (e := V) (by omega)
  obtain ⟨t0, t1⟩ := pwi_range (P := P) (a := z) (e := V) (by omega)
  generalize pwi P G r = l1 at *
  generalize pwi P k1 V = u at *
  generalize pwi P p r = l2 at *
  generalize pwi P z V = t at *
  have M5 := hid (fun w' => r25times_ok P Q G u a w' u0 u1 (by omega) x1 g1)
  have M6 := hid (fun w' => r25times_ok P Q G t b w' t0 t1 (by omega) y1 g1)
  generalize u * a % P = r1' at *
  generalize t * b % P = r2' at *
  have fc0 := cellF c0
  have fc1 := cellF c1
  have fc2 := cellF c2
  have fc3 := cellF c3
  have fc4 := cellF c4
  have fc5 := cellF c5
  have fe0 := cellF e0
  have fe1 := cellF e1
  have fe2 := cellF e2
  have fs0 := cellF s0
  have fs1 := cellF s1
  have fs2 := cellF s2
  have fs3 := cellF s3
  have fa0 := cellF a0
  have fa1 := cellF a1
  have fa2 := cellF a2
  clear c0 c1 c2 c3 c4 c5 e0 e1 e2 s0 s1 s2 s3 a0 a1 a2 hz hx hy z0 z1 x0 x1 y0 y1 k0 k9 m0 m1 r0 r1 v0 v1 u0 u1 t0 t1 g1 g2 g3 g4 g5 g6
  by_cases hq : l1 = r1'
  · have d : (l1 == r1') = true := by simpa using hq
    have HX : Hid (T = (l2 == r2')) := hid (by rw [HB5.out, d]; rfl)
    clear hq HB5
    go_wp2_with fail
    refine wp_region_up (by kernel_rfl) (by kernel_rfl) ?_
    repeat (go_big_quiet_step ((first
      | (go_at_call 57; first
        | ((with_reducible (show Calls _ _ #[_, .int .i64 G, _] _ _)); exact Calls.up_of (M1.out _))
        | ((with_reducible (show Calls _ _ #[_, .int .i64 k1, _] _ _)); exact Calls.up_of (M2.out _))
        | ((with_reducible (show Calls _ _ #[_, .int .i64 p, _] _ _)); exact Calls.up_of (M3.out _))
        | ((with_reducible (show Calls _ _ #[_, .int .i64 z, _] _ _)); exact Calls.up_of (M4.out _)))
      | (go_at_call 58; first
        | ((with_reducible (show Calls _ _ #[_, .int .i64 u, _] _ _)); exact Calls.up_of (M5.out _))
        | ((with_reducible (show Calls _ _ #[_, .int .i64 t, _] _ _)); exact Calls.up_of (M6.out _))))))
    refine wpQuiet_nil ?_
    rintro _ ⟨p', rfl⟩
    go_wp2
    go_ret
    exact ⟨by rw [HX.out]; rfl, HU5.out.trans p'.up⟩
  · have d : (l1 == r1') = false := by simpa using hq
    have hX : T = false := by rw [HB5.out, d]; rfl
    subst hX
    clear hq HB5
    go_wp2_with fail
    refine wp_region_up (by kernel_rfl) (by kernel_rfl) ?_
    repeat (go_big_quiet_step ((first
      | (go_at_call 57; first
        | ((with_reducible (show Calls _ _ #[_, .int .i64 G, _] _ _)); exact Calls.up_of (M1.out _))
        | ((with_reducible (show Calls _ _ #[_, .int .i64 k1, _] _ _)); exact Calls.up_of (M2.out _))
        | ((with_reducible (show Calls _ _ #[_, .int .i64 p, _] _ _)); exact Calls.up_of (M3.out _))
        | ((with_reducible (show Calls _ _ #[_, .int .i64 z, _] _ _)); exact Calls.up_of (M4.out _)))
      | (go_at_call 58; first
        | ((with_reducible (show Calls _ _ #[_, .int .i64 u, _] _ _)); exact Calls.up_of (M5.out _))
        | ((with_reducible (show Calls _ _ #[_, .int .i64 t, _] _ _)); exact Calls.up_of (M6.out _))))))
    refine wpQuiet_nil ?_
    rintro _ ⟨p', rfl⟩
    go_wp2
    go_ret
    exact ⟨rfl, HU5.out.trans p'.up⟩
end Go.Proofs.YtdbhleinhpiohaaGreatDoor
namespace Go.Sp
open Go.RowKit

theorem quiet_load_row {P : Program} {C : World → Prop} {a : Act} {o : Oper} {K : Act → Prop} (ty : TypeId) (x : Operand) (ho : o.op = .load ty x) (g : Nat) (hx : a.eval x = .pointer (some ⟨g, 0, none⟩)) (t : TypeId) (cs : Array Value) (d : TypeDesc)
    (hC : ∀ w, C w → Blk w g t cs) (hu : P.underlying ty = some d) (hd : (match d with | .struct _ | .array _ _ => true | _ => false) = true) (hi : (P.info? ty).map (·.size) = some cs.size) (hk : K (a.put o.dst (.agg cs))) : o.quiet P a C K :=
  ⟨.agg cs, fun w hw => by
    unfold Oper.quietAt execOp
    simp only [ho, hx, Instr.loadAt, Instr.sureAddr, Sem.run_bind, Sem.run_pure, Result.andThen_ok, run_loadVar_row w g t ty cs (0, 0) d (hC w hw) hu hd hi]
    exact ⟨rfl, rfl⟩, hk⟩

theorem Blk.from {w : World} {g : Nat} {t : TypeId} {cs : Array Value} (h : Blk w g t cs) : ∀ w', (∃ p : UpFrom w, w' = p.w') → Blk w' g t cs := fun _ ⟨p, hp⟩ => hp ▸ h.up p.up

/-- The same at an operation with a guard that says yes. -/
theorem wpList_load_rowG {P : Program} {ops : Array Oper} {rest : List Oper} {o : Oper} {a : Act} {w : World} {Q : Exit → Act → World → Prop} (hw : Region.wanted o (yielded ops a.tmps) = true) (ty : TypeId) (x : Operand) (ho : o.op = .load ty x)
    (g : Nat) (hx : a.eval x = .pointer (some ⟨g, 0, none⟩)) (t : TypeId) (cs : Array Value) (fr : Nat × Nat) (d : TypeDesc) (hg : w.heap[g]? = some (.cells cs t fr))
    (hu : P.underlying ty = some d) (hd : (match d with | .struct _ | .array _ _ => true | _ => false) = true) (hi : (P.info? ty).map (·.size) = some cs.size)
    (h : wpList P ops Q rest (a.put o.dst (.agg cs)) w) : wpList P ops Q (o :: rest) a w :=
  wpList_step fun K hK => by
    rw [if_pos hw]
    exact wp_load_row ty x ho g hx t cs fr d hg hu hd hi (hK _ _ h)
end Go.Sp
namespace Go.Proofs.YtdbhleinhpiohaaGreatDoor
open Go.RowKit Go.Sp
set_option maxHeartbeats 1000000
set_option maxRecDepth 20000

/-- The slice's length is within its capacity. -/
def Room (v : Value) : Prop := ∃ a n cap, v = .slice a n cap ∧ n ≤ cap ∧ cap ≤ 9223372036854775807 ∧ (a = none → cap = 0)

theorem ints_sub {w : World} {b off n cap lo hi c : Nat} {xs : List Int} (h : IntsAt w (.slice (some ⟨b, off, none⟩) n cap) xs) (h1 : lo ≤ hi) (h2 : hi ≤ n) : IntsAt w (.slice (some ⟨b, off + lo, none⟩) (hi - lo) c) ((xs.drop lo).take (hi - lo)) := by
  obtain ⟨hl, a', cap', hv, hcell⟩ := h
  injection hv with e1 e2 e3
  subst e1 e2 e3
  have hlen : ((xs.drop lo).take (hi - lo)).length = hi - lo := by simp; omega
  refine ⟨by omega, _, _, by rw [hlen], fun hne => ?_⟩
  have h3 : lo < hi := by
    refine Nat.lt_of_le_of_ne h1 fun e => hne ?_
    rw [e, Nat.sub_self, List.take_zero]
  obtain ⟨b', off', hb, hk⟩ := hcell (by rintro rfl; simp at h2; omega)
  injection hb with hb
  injection hb with hb1 hb2
  subst hb1 hb2
  refine ⟨b, off + lo, rfl, fun i hi' => ?_⟩
  rw [hlen] at hi'
  have := hk (lo + i) (by omega)
  rw [Nat.add_assoc, this]
  simp [hi', List.getElem?_drop]

theorem drop_split (xs : List Int) (f d : Nat) : xs.drop f = (xs.drop f).take d ++ xs.drop (f + d) := by
  rw [← List.drop_drop, List.take_append_drop]

/-- A slice of slices of integers. -/
def RowsAt (w : World) (v : Value) (rs : List (List Int)) : Prop :=
  rs.length ≤ 9223372036854775807 ∧ ∃ a cap, v = .slice a rs.length cap ∧ (rs ≠ [] → ∃ b off, a = some ⟨b, off, none⟩ ∧ ∀ i, i < rs.length → ∃ u, w.cell? ⟨b, off + i, none⟩ = some u ∧ IntsAt w u (rs.getD i []))

theorem RowsAt.up {w w' : World} {v : Value} {rs : List (List Int)} (h : RowsAt w v rs) (hU : Up w w') : RowsAt w' v rs := by
  obtain ⟨hl, a, cap, rfl, hc⟩ := h
  refine ⟨hl, a, cap, rfl, fun hne => ?_⟩
  obtain ⟨b, off, rfl, hcell⟩ := hc hne
  refine ⟨b, off, rfl, fun i hi => ?_⟩
  obtain ⟨u, hu, hI⟩ := hcell i hi
  exact ⟨u, by rw [hU.cell (cell_lt hu)]; exact hu, hI.up hU⟩

theorem rows_cell {w w' : World} {a : Option Addr} {n cap : Nat} {rs : List (List Int)} (h : RowsAt w (.slice a n cap) rs) (hU : Up w w') {i : Nat} (hi : i < rs.length) :
    ∃ b off u, a = some ⟨b, off, none⟩ ∧ w'.cell? ⟨b, off + i, none⟩ = some u ∧ IntsAt w' u (rs.getD i []) := by
  obtain ⟨_, a', cap', hv, hc⟩ := h
  injection hv with e1 e2 e3
  subst e1
  obtain ⟨b, off, rfl, hcell⟩ := hc (by rintro rfl; simp at hi)
  obtain ⟨u, hu, hI⟩ := hcell i hi
  exact ⟨b, off, u, rfl, cellUp hU hu, hI.up hU⟩

theorem rows_drop {rs : List (List Int)} {i : Nat} (hi : i < rs.length) : rs.drop i = rs.getD i [] :: rs.drop (i + 1) := by
  rw [List.drop_eq_getElem_cons hi]; simp [hi]
theorem rows_mem {rs : List (List Int)} {i : Nat} (hi : i < rs.length) : rs.getD i [] ∈ rs := by simp [hi]
end Go.Proofs.YtdbhleinhpiohaaGreatDoor
namespace Go.Proofs.YtdbhleinhpiohaaGreatDoor
open Go.RowKit Go.Sp

theorem sliced_ints {w : World} {v : Value} {xs : List Int} (h : IntsAt w v xs) (r : Room v) (lo hi : Nat) (h1 : lo ≤ hi) (h2 : hi ≤ xs.length) :
    ∃ a n cap, v = .slice a n cap ∧ n = xs.length ∧ n ≤ cap ∧ IntsAt w (sliced a lo hi cap 1) ((xs.drop lo).take (hi - lo)) := by
  obtain ⟨a, n, cap, rfl, hle, hmx, hnone⟩ := r
  obtain ⟨hl, a', cap', hv, hc⟩ := id h
  simp only [Value.slice.injEq] at hv
  obtain ⟨rfl, rfl, rfl⟩ := hv
  refine ⟨a, xs.length, cap, rfl, rfl, hle, ?_⟩
  have hlen : ((xs.drop lo).take (hi - lo)).length = hi - lo := by simp; omega
  by_cases hne : hi - lo = 0
  · have hnil : (xs.drop lo).take (hi - lo) = [] := List.length_eq_zero_iff.1 (by omega)
    rw [hnil]
    unfold sliced
    rw [hne]
    exact ⟨by simp, _, _, rfl, fun hx => absurd rfl hx⟩
  · obtain ⟨b, off, rfl, hcell⟩ := hc (by rintro rfl; simp at h2; omega)
    have := ints_sub (c := cap - lo) h h1 h2
    unfold sliced
    have hcap : cap ≠ lo := by omega
    simpa [hcap, Addr.add_lit] using this

theorem run_lo (a : Option Addr) (n cap k : Nat) (h : k ≤ n) (W : World) : (Instr.slice 77 (.slice a n cap) (some (.int .i64 k)) none none).run Tryz.prog W = .ok (sliced a k n cap 1) W := by
  rw [run_slice_l (P := Tryz.prog) W 77 a n cap (by kernel_rfl) .i64 k (by omega) (by omega)]
  simp [show ∀ W, (sizeOf (Tryz.prog.elem 77)).run Tryz.prog W = .ok 1 W from fun W => by kernel_rfl, Result.andThen]

theorem run_hi (a : Option Addr) (n cap k : Nat) (h : k ≤ cap) (W : World) : (Instr.slice 77 (.slice a n cap) none (some (.int .i64 k)) none).run Tryz.prog W = .ok (sliced a 0 k cap 1) W := by
  rw [run_slice_h (P := Tryz.prog) W 77 a n cap (by kernel_rfl) .i64 k (by omega) (by omega)]
  simp [show ∀ W, (sizeOf (Tryz.prog.elem 77)).run Tryz.prog W = .ok 1 W from fun W => by kernel_rfl, Result.andThen]

/-- v[:k] and v[k:]. -/
theorem sub_runs {w : World} {a : Option Addr} {n cap : Nat} {xs : List Int} (h : IntsAt w (.slice a n cap) xs) (r : Room (.slice a n cap)) (k : Nat) (hk : k ≤ n) :
    ∃ u v, (∀ W, (Instr.slice 77 (.slice a n cap) none (some (.int .i64 k)) none).run Tryz.prog W = .ok u W) ∧ (∀ W, (Instr.slice 77 (.slice a n cap) (some (.int .i64 k)) none none).run Tryz.prog W = .ok v W) ∧
      IntsAt w u (xs.take k) ∧ IntsAt w v (xs.drop k) := by
  have hn : n = xs.length := by
    obtain ⟨_, _, _, hv, _⟩ := h
    simp only [Value.slice.injEq] at hv
    exact hv.2.1
  obtain ⟨a1, n1, c1, hv1, _, hle, i1⟩ := sliced_ints h r 0 k (by omega) (by omega)
  obtain ⟨a2, n2, c2, hv2, _, _, i2⟩ := sliced_ints h r k n (by omega) (by omega)
  simp only [Value.slice.injEq] at hv1 hv2
  obtain ⟨rfl, rfl, rfl⟩ := hv1
  obtain ⟨rfl, -, rfl⟩ := hv2
  refine ⟨_, _, run_hi a n cap k (by omega), run_lo a n cap k hk, by simpa using i1, ?_⟩
  rw [List.take_of_length_le (by simp; omega)] at i2
  exact i2
end Go.Proofs.YtdbhleinhpiohaaGreatDoor
namespace Go.Proofs.YtdbhleinhpiohaaGreatDoor
open Go.RowKit Go.Sp
set_option maxHeartbeats 4000000
set_option maxRecDepth 20000

theorem fMul_ok (P Q G a b : Int) (w : World) (h0 : 0 ≤ a) (h1 : a < Q) (h2 : 0 ≤ b) (h3 : b < Q) (h4 : Q < 2305843009213693952) :
    Calls Tryz.prog 19 #[grp P Q G, .int .i64 a, .int .i64 b] w fun e w' => e = .returned (.int .i64 (a * b % Q)) ∧ Up w w' := by
  go_enter Tryz.func19, Tryz.ntmps19
  go_wp2_with fail
  refine (Mul_ok a b Q _ h0 h1 h2 h3 h4).mono ?_
  rintro e w3 ⟨rfl, hU3⟩
  go_wp2
  go_ret
  exact ⟨rfl, ((Up.refl w).alloc _).trans hU3⟩

theorem fTimes_ok (P Q G a b : Int) (w : World) (h0 : 0 ≤ a) (h1 : a < P) (h2 : 0 ≤ b) (h3 : b < P) (h4 : P < 2305843009213693952) :
    Calls Tryz.prog 52 #[grp P Q G, .int .i64 a, .int .i64 b] w fun e w' => e = .returned (.int .i64 (a * b % P)) ∧ Up w w' := by
  go_enter Tryz.func52, Tryz.ntmps52
  go_wp2_with fail
  refine (Mul_ok a b P _ h0 h1 h2 h3 h4).mono ?_
  rintro e w3 ⟨rfl, hU3⟩
  go_wp2
  go_ret
  exact ⟨rfl, ((Up.refl w).alloc _).trans hU3⟩

theorem fSub_ok (P Q G a b : Int) (w : World) (h0 : 0 ≤ a) (h1 : a < Q) (h2 : 0 ≤ b) (h3 : b < Q) (h4 : Q < 2305843009213693952) :
    Calls Tryz.prog 18 #[grp P Q G, .int .i64 a, .int .i64 b] w fun e w' => e = .returned (.int .i64 ((a - b) % Q)) ∧ Up w w' := by
  go_enter Tryz.func18, Tryz.ntmps18
  go_wp2_with fail
  refine (Sub_ok a b Q _ h0 h1 h2 h3 h4).mono ?_
  rintro e w3 ⟨rfl, hU3⟩
  go_wp2
  go_ret
  exact ⟨rfl, ((Up.refl w).alloc _).trans hU3⟩

theorem fPow_ok (P Q G a e : Int) (w : World) (h0 : 0 ≤ a) (h1 : a < P) (h2 : 0 ≤ e) (h3 : e ≤ 9223372036854775807) (h4 : P < 2305843009213693952) :
    Calls Tryz.prog 51 #[grp P Q G, .int .i64 a, .int .i64 e] w fun e' w' => e' = .returned (.int .i64 (pwi P a e)) ∧ Up w w' := by
  have HP : Hid (pwi P a e = pw a e.toNat P) := hid rfl
  generalize pwi P a e = X at *
  go_enter Tryz.func51, Tryz.ntmps51
  go_wp2_with fail
  refine (Pow_ok a e P _ h0 h1 h2 h3 h4).mono ?_
  rintro e w3 ⟨rfl, hU3⟩
  rw [← HP.out]
  go_wp2
  go_ret
  exact ⟨rfl, ((Up.refl w).alloc _).trans hU3⟩

theorem fScalar_any (P Q G x : Int) (w : World) :
    Calls Tryz.prog 33 #[grp P Q G, .int .i64 x] w fun e w' => e = .returned (.bool (exB Q x)) ∧ Up w w' := by
  have HB : Hid (exB Q x = (decide (0 ≤ x) && decide (x < Q))) := hid rfl
  generalize exB Q x = X at *
  by_cases c1 : x ≥ 0
  case neg =>
    have d1 : decide (x ≥ 0) = false := by simpa using c1
    have hX : X = false := by rw [HB.out, show decide (0 ≤ x) = false from d1]; rfl
    subst hX
    clear c1
    go_enter Tryz.func33, Tryz.ntmps33
    go_wp2
    go_ret
    exact ⟨rfl, (Up.refl w).alloc _⟩
  have d1 : decide (x ≥ 0) = true := by simpa using c1
  have HB2 : Hid (X = decide (x < Q)) := hid (by rw [HB.out, show decide (0 ≤ x) = true from d1]; rfl)
  clear HB
  go_enter Tryz.func33, Tryz.ntmps33
  go_wp2
  go_ret
  exact ⟨by rw [HB2.out]; rfl, (Up.refl w).alloc _⟩

/-- The first error of a view and a signature. -/
def fltE (kv cv ver : Bool) : Int := if kv = true then (if cv = true then (if ver = true then 0 else 12) else 11) else 1

theorem uCheck_any (P Q G A B C k1 k2 k3 m z x y c r p : Int) (root : Nat → Int) (sz sa sb sr : Int) (w : World) (hP : -9223372036854775808 ≤ P) (hQ : Q ≤ 9223372036854775807) (hT : Tab w) (hS : TabS w) (hR : Byt root) :
    Calls Tryz.prog 14 #[bas P Q G A B C, bkey k1 k2 k3, vw m z x y c r, .int .i64 p, hashV root, sgn sz sa sb sr] w fun e w' => e = .returned (.int .i64 (fltE (kvB P Q G A B C k1 k2 k3) (cvB P Q G A B C k1 k2 k3 m z x y c r) (verB P Q G A B C k1 k2 k3 p root sz sa sb sr))) ∧ Up w w' := by
  have M1 := hid (fun w' (hU : Up w w') => resValid_any P Q G A B C k1 k2 k3 w' hP hQ (hT.up hU))
  have M2 := hid (fun w' (hU : Up w w') => resCheckView_any P Q G A B C k1 k2 k3 m z x y c r w' hP hQ (hT.up hU))
  have M3 := hid (fun w' (hU : Up w w') => resVerify_any P Q G A B C k1 k2 k3 p root sz sa sb sr w' hP hQ (hT.up hU) (hS.up hU) hR)
  generalize kvB P Q G A B C k1 k2 k3 = T1 at *
  generalize cvB P Q G A B C k1 k2 k3 m z x y c r = T2 at *
  generalize verB P Q G A B C k1 k2 k3 p root sz sa sb sr = T3 at *
  obtain ⟨E, hE⟩ : ∃ E, fltE T1 T2 T3 = E := ⟨_, rfl⟩
  have HE : Hid (E = if T1 = true then (if T2 = true then (if T3 = true then 0 else 12) else 11) else 1) := hid hE.symm
  rw [hE]
  obtain ⟨cs, hcs⟩ : ∃ cs, arrK .u8 root 32 = cs := ⟨_, rfl⟩
  have HCz : Hid ((Tryz.prog.info? 31).map (·.size) = some cs.size) := hid (by rw [← hcs, arrK_size]; kernel_rfl)
  unfold hashV at M3 ⊢
  rw [hcs] at M3 ⊢
  obtain ⟨o, ho⟩ : ∃ o, w.heap.size = o := ⟨_, rfl⟩
  have HO := hid ho
  obtain ⟨o1, ho1⟩ : ∃ o1, o + 1 = o1 := ⟨_, rfl⟩
  have HO1 := hid ho1
  obtain ⟨o2, ho2⟩ : ∃ o2, o1 + 1 = o2 := ⟨_, rfl⟩
  have HO2 := hid ho2
  obtain ⟨o3, ho3⟩ : ∃ o3, o2 + 1 = o3 := ⟨_, rfl⟩
  have HO3 := hid ho3
  obtain ⟨o4, ho4⟩ : ∃ o4, o3 + 1 = o4 := ⟨_, rfl⟩
  have HO4 := hid ho4
  clear hT hS hR hcs ho ho1 ho2 ho3 ho4 hE
  go_enter Tryz.func14, Tryz.ntmps14
  go_wp2_with fail
  refine (M1.out _ ((((((Up.refl w).alloc _).alloc _).alloc _).alloc _).alloc _)).mono ?_
  rintro e w1 ⟨rfl, hU1⟩
  have HA1 := hid (((nums_six (w := w) (t := 25) HO.out).up (((((Up.refl _).alloc _).alloc _).alloc _).alloc _)).up hU1)
  have HY1 := hid (((nums_three (r := o1) (t := 27) (by have := HO.out; have := HO1.out; have := HO2.out; have := HO3.out; have := HO4.out; simp; omega)).up ((((Up.refl _).alloc _).alloc _).alloc _)).up hU1)
  have HV1 := hid (((nums_six (r := o2) (t := 29) (by have := HO.out; have := HO1.out; have := HO2.out; have := HO3.out; have := HO4.out; simp; omega)).up (((Up.refl _).alloc _).alloc _)).up hU1)
  have HC1 := hid (((Blk.new (g := o3) (t := 31) (by have := HO.out; have := HO1.out; have := HO2.out; have := HO3.out; have := HO4.out; simp; omega) rfl).up ((Up.refl _).alloc _)).up hU1)
  have HS1 := hid (((Blk.new (g := o4) (t := 33) (by have := HO.out; have := HO1.out; have := HO2.out; have := HO3.out; have := HO4.out; simp; omega) rfl)).up hU1)
  have HU1 := hid (((((((Up.refl w).alloc _).alloc _).alloc _).alloc _).alloc _).trans hU1)
  clear hU1
  rw [HO.out, HO1.out, HO2.out, HO3.out, HO4.out]
  obtain ⟨⟨c0, c1, c2⟩, c3, c4, c5⟩ := HA1.out
  obtain ⟨e0, e1, e2⟩ := HY1.out
  obtain ⟨⟨b0, b1, b2⟩, b3, b4, b5⟩ := HV1.out
  have s0 := HS1.out.val (i := 0) rfl
  have s1 := HS1.out.val (i := 1) rfl
  have s2 := HS1.out.val (i := 2) rfl
  have s3 := HS1.out.val (i := 3) rfl
  by_cases h : T1 = true
  case neg =>
    have hE : E = 1 := by rw [HE.out, if_neg h]
    have h' : T1 = false := by simpa using h
    subst hE
    rw [h']
    clear h h'
    go_wp2
    go_ret
    exact ⟨rfl, HU1.out⟩
  have C1 := hid h
  rw [h]
  clear h
  go_wp2_with fail
  refine (M2.out _ (HU1.out)).mono ?_
  rintro e w2 ⟨rfl, hU2⟩
  have HA2 := hid (HA1.out.up hU2)
  have HY2 := hid (HY1.out.up hU2)
  have HV2 := hid (HV1.out.up hU2)
  have HC2 := hid (HC1.out.up hU2)
  have HS2 := hid (HS1.out.up hU2)
  have HU2 := hid (HU1.out.trans hU2)
  clear hU2 HA1 HY1 HV1 HC1 HS1 HU1 c0 c1 c2 c3 c4 c5 e0 e1 e2 b0 b1 b2 b3 b4 b5 s0 s1 s2 s3
  obtain ⟨⟨c0, c1, c2⟩, c3, c4, c5⟩ := HA2.out
  obtain ⟨e0, e1, e2⟩ := HY2.out
  obtain ⟨⟨b0, b1, b2⟩, b3, b4, b5⟩ := HV2.out
  have s0 := HS2.out.val (i := 0) rfl
  have s1 := HS2.out.val (i := 1) rfl
  have s2 := HS2.out.val (i := 2) rfl
  have s3 := HS2.out.val (i := 3) rfl
  by_cases h : T2 = true
  case neg =>
    have hE : E = 11 := by rw [HE.out, if_pos C1.out, if_neg h]
    have h' : T2 = false := by simpa using h
    subst hE
    rw [h']
    clear h h'
    go_wp2
    go_ret
    exact ⟨rfl, HU2.out⟩
  have C2 := hid h
  rw [h]
  clear h
  go_wp2_with (refine wpList_load_row rfl 31 _ rfl o3 rfl 31 cs (0, 0) _ HC2.out Tryz.underlying31 rfl HCz.out ?_)
  refine (M3.out _ (HU2.out)).mono ?_
  rintro e w3 ⟨rfl, hU3⟩
  have HA3 := hid (HA2.out.up hU3)
  have HY3 := hid (HY2.out.up hU3)
  have HV3 := hid (HV2.out.up hU3)
  have HC3 := hid (HC2.out.up hU3)
  have HS3 := hid (HS2.out.up hU3)
  have HU3 := hid (HU2.out.trans hU3)
  clear hU3 HA2 HY2 HV2 HC2 HS2 HU2 c0 c1 c2 c3 c4 c5 e0 e1 e2 b0 b1 b2 b3 b4 b5 s0 s1 s2 s3
  by_cases h : T3 = true
  case neg =>
    have hE : E = 12 := by rw [HE.out, if_pos C1.out, if_pos C2.out, if_neg h]
    have h' : T3 = false := by simpa using h
    subst hE
    rw [h']
    clear h h'
    go_wp2
    go_ret
    exact ⟨rfl, HU3.out⟩
  have C3 := hid h
  rw [h]
  clear h
  have hE : E = 0 := by rw [HE.out, if_pos C1.out, if_pos C2.out, if_pos C3.out]
  subst hE
  go_wp2
  go_ret
  exact ⟨rfl, HU3.out⟩

theorem r26Fault_any (P Q G A B C k1 k2 k3 m z x y c r p : Int) (root : Nat → Int) (sz sa sb sr : Int) (w : World) (hP : -9223372036854775808 ≤ P) (hQ : Q ≤ 9223372036854775807) (hR : Byt root) :
    Calls Tryz.prog 7 #[bas P Q G A B C, bkey k1 k2 k3, vw m z x y c r, .int .i64 p, hashV root, sgn sz sa sb sr] w fun e w' => e = .returned (.int .i64 (fltE (kvB P Q G A B C k1 k2 k3) (cvB P Q G A B C k1 k2 k3 m z x y c r) (verB P Q G A B C k1 k2 k3 p root sz sa sb sr))) ∧ Up w w' := by
  have M1 := hid (fun w' (_ : Up w w') => r25Valid_any P Q G A B C k1 k2 k3 w' hP hQ)
  have M2 := hid (fun w' (_ : Up w w') => r25CheckView_any P Q G A B C k1 k2 k3 m z x y c r w' hP hQ)
  have M3 := hid (fun w' (_ : Up w w') => r25Verify_any P Q G A B C k1 k2 k3 p root sz sa sb sr w' hP hQ hR)
  generalize kvB P Q G A B C k1 k2 k3 = T1 at *
  generalize cvB P Q G A B C k1 k2 k3 m z x y c r = T2 at *
  generalize verB P Q G A B C k1 k2 k3 p root sz sa sb sr = T3 at *
  obtain ⟨E, hE⟩ : ∃ E, fltE T1 T2 T3 = E := ⟨_, rfl⟩
  have HE : Hid (E = if T1 = true then (if T2 = true then (if T3 = true then 0 else 12) else 11) else 1) := hid hE.symm
  rw [hE]
  obtain ⟨cs, hcs⟩ : ∃ cs, arrK .u8 root 32 = cs := ⟨_, rfl⟩
  have HCz : Hid ((Tryz.prog.info? 31).map (·.size) = some cs.size) := hid (by rw [← hcs, arrK_size]; kernel_rfl)
  unfold hashV at M3 ⊢
  rw [hcs] at M3 ⊢
  obtain ⟨o, ho⟩ : ∃ o, w.heap.size = o := ⟨_, rfl⟩
  have HO := hid ho
  obtain ⟨o1, ho1⟩ : ∃ o1, o + 1 = o1 := ⟨_, rfl⟩
  have HO1 := hid ho1
  obtain ⟨o2, ho2⟩ : ∃ o2, o1 + 1 = o2 := ⟨_, rfl⟩
  have HO2 := hid ho2
  obtain ⟨o3, ho3⟩ : ∃ o3, o2 + 1 = o3 := ⟨_, rfl⟩
  have HO3 := hid ho3
  obtain ⟨o4, ho4⟩ : ∃ o4, o3 + 1 = o4 := ⟨_, rfl⟩
  have HO4 := hid ho4
  clear hR hcs ho ho1 ho2 ho3 ho4 hE
  go_enter Tryz.func7, Tryz.ntmps7
  go_wp2_with fail
  refine (M1.out _ ((((((Up.refl w).alloc _).alloc _).alloc _).alloc _).alloc _)).mono ?_
  rintro e w1 ⟨rfl, hU1⟩
  have HA1 := hid (((nums_six (w := w) (t := 25) HO.out).up (((((Up.refl _).alloc _).alloc _).alloc _).alloc _)).up hU1)
  have HY1 := hid (((nums_three (r := o1) (t := 27) (by have := HO.out; have := HO1.out; have := HO2.out; have := HO3.out; have := HO4.out; simp; omega)).up ((((Up.refl _).alloc _).alloc _).alloc _)).up hU1)
  have HV1 := hid (((nums_six (r := o2) (t := 29) (by have := HO.out; have := HO1.out; have := HO2.out; have := HO3.out; have := HO4.out; simp; omega)).up (((Up.refl _).alloc _).alloc _)).up hU1)
  have HC1 := hid (((Blk.new (g := o3) (t := 31) (by have := HO.out; have := HO1.out; have := HO2.out; have := HO3.out; have := HO4.out; simp; omega) rfl).up ((Up.refl _).alloc _)).up hU1)
  have HS1 := hid (((Blk.new (g := o4) (t := 33) (by have := HO.out; have := HO1.out; have := HO2.out; have := HO3.out; have := HO4.out; simp; omega) rfl)).up hU1)
  have HU1 := hid (((((((Up.refl w).alloc _).alloc _).alloc _).alloc _).alloc _).trans hU1)
  clear hU1
  rw [HO.out, HO1.out, HO2.out, HO3.out, HO4.out]
  obtain ⟨⟨c0, c1, c2⟩, c3, c4, c5⟩ := HA1.out
  obtain ⟨e0, e1, e2⟩ := HY1.out
  obtain ⟨⟨b0, b1, b2⟩, b3, b4, b5⟩ := HV1.out
  have s0 := HS1.out.val (i := 0) rfl
  have s1 := HS1.out.val (i := 1) rfl
  have s2 := HS1.out.val (i := 2) rfl
  have s3 := HS1.out.val (i := 3) rfl
  by_cases h : T1 = true
  case neg =>
    have hE : E = 1 := by rw [HE.out, if_neg h]
    have h' : T1 = false := by simpa using h
    subst hE
    rw [h']
    clear h h'
    go_wp2
    go_ret
    exact ⟨rfl, HU1.out⟩
  have C1 := hid h
  rw [h]
  clear h
  go_wp2_with fail
  refine (M2.out _ (HU1.out)).mono ?_
  rintro e w2 ⟨rfl, hU2⟩
  have HA2 := hid (HA1.out.up hU2)
  have HY2 := hid (HY1.out.up hU2)
  have HV2 := hid (HV1.out.up hU2)
  have HC2 := hid (HC1.out.up hU2)
  have HS2 := hid (HS1.out.up hU2)
  have HU2 := hid (HU1.out.trans hU2)
  clear hU2 HA1 HY1 HV1 HC1 HS1 HU1 c0 c1 c2 c3 c4 c5 e0 e1 e2 b0 b1 b2 b3 b4 b5 s0 s1 s2 s3
  obtain ⟨⟨c0, c1, c2⟩, c3, c4, c5⟩ := HA2.out
  obtain ⟨e0, e1, e2⟩ := HY2.out
  obtain ⟨⟨b0, b1, b2⟩, b3, b4, b5⟩ := HV2.out
  have s0 := HS2.out.val (i := 0) rfl
  have s1 := HS2.out.val (i := 1) rfl
  have s2 := HS2.out.val (i := 2) rfl
  have s3 := HS2.out.val (i := 3) rfl
  by_cases h : T2 = true
  case neg =>
    have hE : E = 11 := by rw [HE.out, if_pos C1.out, if_neg h]
    have h' : T2 = false := by simpa using h
    subst hE
    rw [h']
    clear h h'
    go_wp2
    go_ret
    exact ⟨rfl, HU2.out⟩
  have C2 := hid h
  rw [h]
  clear h
  go_wp2_with (refine wpList_load_row rfl 31 _ rfl o3 rfl 31 cs (0, 0) _ HC2.out Tryz.underlying31 rfl HCz.out ?_)
  refine (M3.out _ (HU2.out)).mono ?_
  rintro e w3 ⟨rfl, hU3⟩
  have HA3 := hid (HA2.out.up hU3)
  have HY3 := hid (HY2.out.up hU3)
  have HV3 := hid (HV2.out.up hU3)
  have HC3 := hid (HC2.out.up hU3)
  have HS3 := hid (HS2.out.up hU3)
  have HU3 := hid (HU2.out.trans hU3)
  clear hU3 HA2 HY2 HV2 HC2 HS2 HU2 c0 c1 c2 c3 c4 c5 e0 e1 e2 b0 b1 b2 b3 b4 b5 s0 s1 s2 s3
  by_cases h : T3 = true
  case neg =>
    have hE : E = 12 := by rw [HE.out, if_pos C1.out, if_pos C2.out, if_neg h]
    have h' : T3 = false := by simpa using h
    subst hE
    rw [h']
    clear h h'
    go_wp2
    go_ret
    exact ⟨rfl, HU3.out⟩
  have C3 := hid h
  rw [h]
  clear h
  have hE : E = 0 := by rw [HE.out, if_pos C1.out, if_pos C2.out, if_pos C3.out]
  subst hE
  go_wp2
  go_ret
  exact ⟨rfl, HU3.out⟩

end Go.Proofs.YtdbhleinhpiohaaGreatDoor
