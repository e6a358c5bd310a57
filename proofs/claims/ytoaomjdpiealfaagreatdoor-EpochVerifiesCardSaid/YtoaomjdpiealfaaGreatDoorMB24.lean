/- Restrictive signatures: which are right. The reference's restrictive signatures: which are right. A part of a slice of integers, as one value that nobody looks into. Package unlink: the methods of a field; the first error. Package unlink: which factors explain. -/
import Derived.Test.YtoaomjdpiealfaaGreatDoorMB15
import Derived.Test.YtoaomjdpiealfaaGreatDoorMB21
import Derived.Test.YtoaomjdpiealfaaGreatDoorMB5
import Derived.Test.YtoaomjdpiealfaaGreatDoorMB18
namespace Go.Proofs.YtoaomjdpiealfaaGreatDoor
open Go.RowKit Go.Sp
set_option maxHeartbeats 4000000
set_option maxRecDepth 20000

/-- A right signature. -/
def verB (P Q G A B C k1 k2 k3 p : Int) (root : Nat → Int) (z a b r : Int) : Bool :=
  kvB P Q G A B C k1 k2 k3 && (gnB P Q p && (exB Q r && ([z, a, b].all (elB P Q) && (coinC P Q G A B C p root z a b != 0 && cvE P G k1 p z a b (coinC P Q G A B C p root z a b) r))))

theorem resVerify_any (P Q G A B C k1 k2 k3 p : Int) (root : Nat → Int) (z a b r : Int) (w : World) (hP : -9223372036854775808 ≤ P) (hQ : Q ≤ 9223372036854775807) (hT : Tab w) (hS : TabS w) (hR : Byt root) :
    Calls Tryz.prog 97 #[bas P Q G A B C, bkey k1 k2 k3, .int .i64 p, hashV root, sgn z a b r] w fun e w' => e = .returned (.bool (verB P Q G A B C k1 k2 k3 p root z a b r)) ∧ Up w w' := by
  have HT := hid hT
  have HB0 : Hid (verB P Q G A B C k1 k2 k3 p root z a b r = (kvB P Q G A B C k1 k2 k3 && (gnB P Q p && (exB Q r && ([z, a, b].all (elB P Q) && (coinC P Q G A B C p root z a b != 0 && cvE P G k1 p z a b (coinC P Q G A B C p root z a b) r)))))) := hid rfl
  generalize verB P Q G A B C k1 k2 k3 p root z a b r = T at *
  have HCh := hid (fun w' (hU : Up w w') => resChallenge_any P Q G A B C p root z a b r w' hP hQ (hT.up hU) (hS.up hU) hR)
  have HR := hid hR
  obtain ⟨cs, hcs⟩ : ∃ cs, arrK .u8 root 32 = cs := ⟨_, rfl⟩
  have HCz : Hid ((Tryz.prog.info? 55).map (·.size) = some cs.size) := hid (by rw [← hcs, arrK_size]; kernel_rfl)
  unfold hashV at HCh ⊢
  rw [hcs] at HCh ⊢
  obtain ⟨o, ho⟩ : ∃ o, w.heap.size = o := ⟨_, rfl⟩
  have HO := hid ho
  obtain ⟨o1, ho1⟩ : ∃ o1, o + 1 = o1 := ⟨_, rfl⟩
  obtain ⟨o2, ho2⟩ : ∃ o2, o1 + 1 = o2 := ⟨_, rfl⟩
  obtain ⟨o3, ho3⟩ : ∃ o3, o2 + 1 = o3 := ⟨_, rfl⟩
  obtain ⟨o4, ho4⟩ : ∃ o4, o3 + 1 = o4 := ⟨_, rfl⟩
  have HO1 := hid ho1
  have HO2 := hid ho2
  have HO3 := hid ho3
  have HO4 := hid ho4
  clear hT hS hR hcs ho ho1 ho2 ho3 ho4
  go_enter Tryz.func97, Tryz.ntmps97
  go_wp2_with fail
  refine (resValid_any P Q G A B C k1 k2 k3 _ hP hQ (HT.out.up (((((Up.refl w).alloc _).alloc _).alloc _).alloc _))).mono ?_
  rintro e w1 ⟨rfl, hU1⟩
  have HA1 := hid (((nums_six (w := w) (t := 49) HO.out).up ((((Up.refl _).alloc _).alloc _).alloc _)).up hU1)
  have HY1 := hid (((nums_three (r := o1) (t := 51) (by have := HO.out; have := HO1.out; have := HO2.out; have := HO3.out; have := HO4.out; simp; omega)).up (((Up.refl _).alloc _).alloc _)).up hU1)
  have HC1 := hid (((Blk.new (g := o2) (t := 55) (by have := HO.out; have := HO1.out; have := HO2.out; have := HO3.out; have := HO4.out; simp; omega) rfl).up ((Up.refl _).alloc _)).up hU1)
  have HS1 := hid (((Blk.new (g := o3) (t := 57) (by have := HO.out; have := HO1.out; have := HO2.out; have := HO3.out; have := HO4.out; simp; omega) rfl)).up hU1)
  have HU1 := hid ((((((Up.refl w).alloc _).alloc _).alloc _).alloc _).trans hU1)
  clear hU1
  rw [HO.out, HO1.out, HO2.out, HO3.out]
  obtain ⟨⟨c0, c1, c2⟩, c3, c4, c5⟩ := HA1.out
  obtain ⟨e0, e1, e2⟩ := HY1.out
  have s0 := HS1.out.val (i := 0) rfl
  have s1 := HS1.out.val (i := 1) rfl
  have s2 := HS1.out.val (i := 2) rfl
  have s3 := HS1.out.val (i := 3) rfl
  by_cases h : kvB P Q G A B C k1 k2 k3 = true
  case neg =>
    have h' : kvB P Q G A B C k1 k2 k3 = false := by simpa using h
    have hX : T = false := by rw [HB0.out, h']; rfl
    subst hX
    rw [h']
    clear h h'
    go_wp2
    go_ret
    exact ⟨rfl, HU1.out⟩
  have HB1 : Hid (T = (gnB P Q p && (exB Q r && ([z, a, b].all (elB P Q) && (coinC P Q G A B C p root z a b != 0 && cvE P G k1 p z a b (coinC P Q G A B C p root z a b) r))))) := hid (by rw [HB0.out, h]; rfl)
  have C1 := hid h
  rw [h]
  clear h HB0
  obtain ⟨hbv, hk1, hk2, hk3⟩ : bvB P Q G A B C = true ∧ gnB P Q k1 = true ∧ gnB P Q k2 = true ∧ gnB P Q k3 = true := by
    have := C1.out
    simp only [kvB, Bool.and_eq_true] at this
    exact this
  have Hbv := hid hbv
  have g := gv_iff.1 (bv_iff.1 hbv).1
  have g1 := g.P61
  have g2 := g.P4
  have g3 := g.Q3
  have g4 := g.QP
  have g5 := g.G2
  have g6 := g.GP
  have HK1 := hid (gn_el hk1)
  clear hbv hk1 hk2 hk3 g
  go_wp2_with fail
  refine (resMessage_any P Q G A B C p _ g1 (by omega) hQ).mono ?_
  rintro e w2 ⟨rfl, hU2⟩
  have HA2 := hid (HA1.out.up hU2)
  have HY2 := hid (HY1.out.up hU2)
  have HC2 := hid (HC1.out.up hU2)
  have HS2 := hid (HS1.out.up hU2)
  have HU2 := hid (HU1.out.trans hU2)
  clear hU2 HA1 HY1 HC1 HS1 HU1 c0 c1 c2 c3 c4 c5 e0 e1 e2 s0 s1 s2 s3
  obtain ⟨⟨c0, c1, c2⟩, c3, c4, c5⟩ := HA2.out
  obtain ⟨e0, e1, e2⟩ := HY2.out
  have s0 := HS2.out.val (i := 0) rfl
  have s1 := HS2.out.val (i := 1) rfl
  have s2 := HS2.out.val (i := 2) rfl
  have s3 := HS2.out.val (i := 3) rfl
  by_cases h : gnB P Q p = true
  case neg =>
    have h' : gnB P Q p = false := by simpa using h
    have hX : T = false := by rw [HB1.out, h']; rfl
    subst hX
    rw [h']
    clear h h'
    go_wp2
    go_ret
    exact ⟨rfl, HU2.out⟩
  have HB2 : Hid (T = (exB Q r && ([z, a, b].all (elB P Q) && (coinC P Q G A B C p root z a b != 0 && cvE P G k1 p z a b (coinC P Q G A B C p root z a b) r)))) := hid (by rw [HB1.out, h]; rfl)
  have C2 := hid h
  rw [h]
  clear h HB1
  go_wp2_with fail
  refine (resScalar_any P Q G A B C r _).mono ?_
  rintro e w3 ⟨rfl, hU3⟩
  have HA3 := hid (HA2.out.up hU3)
  have HY3 := hid (HY2.out.up hU3)
  have HC3 := hid (HC2.out.up hU3)
  have HS3 := hid (HS2.out.up hU3)
  have HU3 := hid (HU2.out.trans hU3)
  clear hU3 HA2 HY2 HC2 HS2 HU2 c0 c1 c2 c3 c4 c5 e0 e1 e2 s0 s1 s2 s3
  obtain ⟨⟨c0, c1, c2⟩, c3, c4, c5⟩ := HA3.out
  obtain ⟨e0, e1, e2⟩ := HY3.out
  have s0 := HS3.out.val (i := 0) rfl
  have s1 := HS3.out.val (i := 1) rfl
  have s2 := HS3.out.val (i := 2) rfl
  have s3 := HS3.out.val (i := 3) rfl
  by_cases h : exB Q r = true
  case neg =>
    have h' : exB Q r = false := by simpa using h
    have hX : T = false := by rw [HB2.out, h']; rfl
    subst hX
    rw [h']
    clear h h'
    go_wp2
    go_ret
    exact ⟨rfl, HU3.out⟩
  have HB3 : Hid (T = ([z, a, b].all (elB P Q) && (coinC P Q G A B C p root z a b != 0 && cvE P G k1 p z a b (coinC P Q G A B C p root z a b) r))) := hid (by rw [HB2.out, h]; rfl)
  have C3 := hid h
  rw [h]
  clear h HB2
  by_cases hal : [z, a, b].all (elB P Q) = true
  case neg =>
    have hal' : [z, a, b].all (elB P Q) = false := by simpa using hal
    have hX : T = false := by rw [HB3.out, hal']; rfl
    subst hX
    have hE : chlE P Q G A B C p z a b = 2 := by
      rw [chlE, if_pos Hbv.out, if_neg]
      intro h
      simp only [List.all_cons, List.all_nil, Bool.and_eq_true, Bool.and_true] at h hal
      exact hal h.2
    have hV : chlV P Q G A B C p root z a b = 0 := by rw [chlV, if_neg (by rw [hE]; decide)]
    rw [hE, hV] at HCh
    clear hal hal' hE hV
    go_wp2_with (refine wpList_load_row rfl 55 _ rfl o2 rfl 55 cs (0, 0) _ HC3.out Tryz.underlying55 rfl HCz.out ?_)
    refine (HCh.out _ (HU3.out)).mono ?_
    rintro e w4 ⟨rfl, hU4⟩
    have HA4 := hid (HA3.out.up hU4)
    have HY4 := hid (HY3.out.up hU4)
    have HC4 := hid (HC3.out.up hU4)
    have HS4 := hid (HS3.out.up hU4)
    have HU4 := hid (HU3.out.trans hU4)
    clear hU4 HA3 HY3 HC3 HS3 HU3 c0 c1 c2 c3 c4 c5 e0 e1 e2 s0 s1 s2 s3
    go_wp2
    go_ret
    exact ⟨rfl, HU4.out⟩
  have Hal := hid hal
  have HB4 : Hid (T = (coinC P Q G A B C p root z a b != 0 && cvE P G k1 p z a b (coinC P Q G A B C p root z a b) r)) := hid (by rw [HB3.out, hal]; rfl)
  obtain ⟨hz, hx, hy⟩ : elB P Q z = true ∧ elB P Q a = true ∧ elB P Q b = true := by simpa using hal
  have hE : chlE P Q G A B C p z a b = 0 := by rw [chlE, if_pos Hbv.out, if_pos (by simp [gn_el C2.out, hz, hx, hy])]
  have hV : chlV P Q G A B C p root z a b = coinC P Q G A B C p root z a b := by rw [chlV, if_pos hE]
  rw [hE, hV] at HCh
  obtain ⟨v0, v1⟩ := coinC_range P G A B C p root z a b (Q := Q) (by omega)
  generalize coinC P Q G A B C p root z a b = V at *
  clear hal hE hV HB3
  go_wp2_with (refine wpList_load_row rfl 55 _ rfl o2 rfl 55 cs (0, 0) _ HC3.out Tryz.underlying55 rfl HCz.out ?_)
  refine (HCh.out _ (HU3.out)).mono ?_
  rintro e w4 ⟨rfl, hU4⟩
  have HA4 := hid (HA3.out.up hU4)
  have HY4 := hid (HY3.out.up hU4)
  have HC4 := hid (HC3.out.up hU4)
  have HS4 := hid (HS3.out.up hU4)
  have HU4 := hid (HU3.out.trans hU4)
  clear hU4 HA3 HY3 HC3 HS3 HU3 c0 c1 c2 c3 c4 c5 e0 e1 e2 s0 s1 s2 s3
  obtain ⟨⟨c0, c1, c2⟩, c3, c4, c5⟩ := HA4.out
  obtain ⟨e0, e1, e2⟩ := HY4.out
  have s0 := HS4.out.val (i := 0) rfl
  have s1 := HS4.out.val (i := 1) rfl
  have s2 := HS4.out.val (i := 2) rfl
  have s3 := HS4.out.val (i := 3) rfl
  by_cases hv : V = 0
  case pos =>
    subst hv
    have hX : T = false := by rw [HB4.out]; rfl
    subst hX
    go_wp2
    go_ret
    exact ⟨rfl, HU4.out⟩
  have dV : (V == 0) = false := by simpa using hv
  have HB5 : Hid (T = (pwi P G r == pwi P k1 V * a % P && pwi P p r == pwi P z V * b % P)) := hid (by rw [HB4.out, show (V != 0) = true by simpa using hv]; rfl)
  clear hv
  obtain ⟨z0, z1, _⟩ := el_iff.1 hz
  obtain ⟨x0, x1, _⟩ := el_iff.1 hx
  obtain ⟨y0, y1, _⟩ := el_iff.1 hy
  obtain ⟨k0, k9, _⟩ := el_iff.1 HK1.out
  obtain ⟨m0, m1, _⟩ := el_iff.1 (gn_el C2.out)
  obtain ⟨r0, r1⟩ := exB_iff.1 C3.out
  have M1 := hid (fun w' => resPower_ok P Q G A B C G r w' (by omega) g6 (by omega) (by omega) g1)
  have M2 := hid (fun w' => resProduct_one P Q G A B C k1 V a w' (by omega) k9 (by omega) (by omega) (by omega) x1 g1)
  have M3 := hid (fun w' => resPower_ok P Q G A B C p r w' (by omega) m1 (by omega) (by omega) g1)
  have M4 := hid (fun w' => resProduct_one P Q G A B C z V b w' (by omega) z1 (by omega) (by omega) (by omega) y1 g1)
  generalize pwi P G r = l1 at *
  generalize pwi P k1 V * a % P = r1' at *
  generalize pwi P p r = l2 at *
  generalize pwi P z V * b % P = r2' at *
  have fc0 := cellF c0
  have fc1 := cellF c1
  have fc2 := cellF c2
  have fc3 := cellF c3
  have fc4 := cellF c4
  have fc5 := cellF c5
  have fe0 := cellF e0
  have fe1 := cellF e1
  have fe2 := cellF e2
  have fs0 := cellF s0
  have fs1 := cellF s1
  have fs2 := cellF s2
  have fs3 := cellF s3
  clear c0 c1 c2 c3 c4 c5 e0 e1 e2 s0 s1 s2 s3 hz hx hy z0 z1 x0 x1 y0 y1 k0 k9 m0 m1 r0 r1 v0 v1 g1 g2 g3 g4 g5 g6
  by_cases hq : l1 = r1'
  · have d : (l1 == r1') = true := by simpa using hq
    have HX : Hid (T = (l2 == r2')) := hid (by rw [HB5.out, d]; rfl)
    clear hq HB5
    go_wp2_with fail
    refine wp_region_up (by kernel_rfl) (by kernel_rfl) ?_
    repeat (go_big_quiet_step ((first
      | (go_at_call 161; first
        | ((with_reducible (show Calls _ _ #[_, .int .i64 G, _] _ _)); exact Calls.up_of (M1.out _))
        | ((with_reducible (show Calls _ _ #[_, .int .i64 p, _] _ _)); exact Calls.up_of (M3.out _)))
      | (go_at_call 162; first
        | ((with_reducible (show Calls _ _ #[_, .int .i64 k1, _, _, _] _ _)); exact Calls.up_of (M2.out _))
        | ((with_reducible (show Calls _ _ #[_, .int .i64 z, _, _, _] _ _)); exact Calls.up_of (M4.out _))))))
    refine wpQuiet_nil ?_
    rintro _ ⟨p', rfl⟩
    go_wp2
    go_ret
    exact ⟨by rw [HX.out]; rfl, HU4.out.trans p'.up⟩
  · have d : (l1 == r1') = false := by simpa using hq
    have hX : T = false := by rw [HB5.out, d]; rfl
    subst hX
    clear hq HB5
    go_wp2_with fail
    refine wp_region_up (by kernel_rfl) (by kernel_rfl) ?_
    repeat (go_big_quiet_step ((first
      | (go_at_call 161; first
        | ((with_reducible (show Calls _ _ #[_, .int .i64 G, _] _ _)); exact Calls.up_of (M1.out _))
        | ((with_reducible (show Calls _ _ #[_, .int .i64 p, _] _ _)); exact Calls.up_of (M3.out _)))
      | (go_at_call 162; first
        | ((with_reducible (show Calls _ _ #[_, .int .i64 k1, _, _, _] _ _)); exact Calls.up_of (M2.out _))
        | ((with_reducible (show Calls _ _ #[_, .int .i64 z, _, _, _] _ _)); exact Calls.up_of (M4.out _))))))
    refine wpQuiet_nil ?_
    rintro _ ⟨p', rfl⟩
    go_wp2
    go_ret
    exact ⟨rfl, HU4.out.trans p'.up⟩
end Go.Proofs.YtoaomjdpiealfaaGreatDoor
namespace Go.Proofs.YtoaomjdpiealfaaGreatDoor
open Go.RowKit Go.Sp
set_option maxHeartbeats 4000000
set_option maxRecDepth 20000

theorem r25elements_any (P Q G z a b r : Int) (w : World) (g1 : P < 2305843009213693952) (g3 : 0 ≤ Q) (hQ : Q ≤ 9223372036854775807) :
    Calls Tryz.prog 112 #[grp P Q G, sgn z a b r] w fun e w' => e = .returned (.bool ([z, a, b].all (elB P Q))) ∧ Up w w' := by
  have HB0 : Hid ([z, a, b].all (elB P Q) = (elB P Q z && (elB P Q a && elB P Q b))) := hid (by simp)
  generalize [z, a, b].all (elB P Q) = T at *
  go_enter Tryz.func112, Tryz.ntmps112
  go_wp2_with fail
  obtain ⟨o, ho⟩ : ∃ o, w.heap.size = o := ⟨_, rfl⟩
  refine (rMember_any P Q G z _ g1 g3 hQ).mono ?_
  rintro e w1 ⟨rfl, hU1⟩
  have HD1 := hid (((nums_three (w := w) (r := o) (t := 23) ho).up ((Up.refl _).alloc _)).up hU1)
  have HS1 := hid (((Blk.new (g := o + 1) (t := 57) (by simp [ho]) rfl)).up hU1)
  have HU1 := hid ((((Up.refl w).alloc _).alloc _).trans hU1)
  clear hU1
  rw [ho]
  clear ho
  obtain ⟨a0, a1, a2⟩ := HD1.out
  have s0 := HS1.out.val (i := 0) rfl
  have s1 := HS1.out.val (i := 1) rfl
  have s2 := HS1.out.val (i := 2) rfl
  have s3 := HS1.out.val (i := 3) rfl
  by_cases h : elB P Q z = true
  case neg =>
    have h' : elB P Q z = false := by simpa using h
    have hX : T = false := by rw [HB0.out, h']; rfl
    subst hX
    rw [h']
    clear h h'
    go_wp2
    go_ret
    exact ⟨rfl, HU1.out⟩
  have HB1 : Hid (T = (elB P Q a && elB P Q b)) := hid (by rw [HB0.out, h]; rfl)
  have C1 := hid h
  rw [h]
  clear h HB0
  go_wp2_with fail
  refine (rMember_any P Q G a _ g1 g3 hQ).mono ?_
  rintro e w2 ⟨rfl, hU2⟩
  have HD2 := hid (HD1.out.up hU2)
  have HS2 := hid (HS1.out.up hU2)
  have HU2 := hid (HU1.out.trans hU2)
  clear hU2 HD1 HS1 HU1 a0 a1 a2 s0 s1 s2 s3
  obtain ⟨a0, a1, a2⟩ := HD2.out
  have s0 := HS2.out.val (i := 0) rfl
  have s1 := HS2.out.val (i := 1) rfl
  have s2 := HS2.out.val (i := 2) rfl
  have s3 := HS2.out.val (i := 3) rfl
  by_cases h : elB P Q a = true
  case neg =>
    have h' : elB P Q a = false := by simpa using h
    have hX : T = false := by rw [HB1.out, h']; rfl
    subst hX
    rw [h']
    clear h h'
    go_wp2
    go_ret
    exact ⟨rfl, HU2.out⟩
  have HB2 : Hid (T = (elB P Q b)) := hid (by rw [HB1.out, h]; rfl)
  have C2 := hid h
  rw [h]
  clear h HB1
  go_wp2_with fail
  refine (rMember_any P Q G b _ g1 g3 hQ).mono ?_
  rintro e w3 ⟨rfl, hU3⟩
  have HD3 := hid (HD2.out.up hU3)
  have HS3 := hid (HS2.out.up hU3)
  have HU3 := hid (HU2.out.trans hU3)
  clear hU3 HD2 HS2 HU2 a0 a1 a2 s0 s1 s2 s3
  obtain ⟨a0, a1, a2⟩ := HD3.out
  have s0 := HS3.out.val (i := 0) rfl
  have s1 := HS3.out.val (i := 1) rfl
  have s2 := HS3.out.val (i := 2) rfl
  have s3 := HS3.out.val (i := 3) rfl
  rw [← HB2.out]
  go_wp2
  go_ret
  exact ⟨rfl, HU3.out⟩

theorem r25Verify_any (P Q G A B C k1 k2 k3 p : Int) (root : Nat → Int) (z a b r : Int) (w : World) (hP : -9223372036854775808 ≤ P) (hQ : Q ≤ 9223372036854775807) (hR : Byt root) :
    Calls Tryz.prog 52 #[bas P Q G A B C, bkey k1 k2 k3, .int .i64 p, hashV root, sgn z a b r] w fun e w' => e = .returned (.bool (verB P Q G A B C k1 k2 k3 p root z a b r)) ∧ Up w w' := by
  have HB0 : Hid (verB P Q G A B C k1 k2 k3 p root z a b r = (kvB P Q G A B C k1 k2 k3 && (gnB P Q p && ([z, a, b].all (elB P Q) && (exB Q r && (coinC P Q G A B C p root z a b != 0 && cvE P G k1 p z a b (coinC P Q G A B C p root z a b) r)))))) := hid (by
    unfold verB
    cases exB Q r <;> cases [z, a, b].all (elB P Q) <;> rfl)
  generalize verB P Q G A B C k1 k2 k3 p root z a b r = T at *
  have HCh := hid (fun w' (h0 : 1 ≤ Q) (h1 : Q < 2305843009213693952) => rChallenge_any P Q G A B C p root z a b r w' h0 h1 hR)
  have HR := hid hR
  obtain ⟨cs, hcs⟩ : ∃ cs, arrK .u8 root 32 = cs := ⟨_, rfl⟩
  have HCz : Hid ((Tryz.prog.info? 55).map (·.size) = some cs.size) := hid (by rw [← hcs, arrK_size]; kernel_rfl)
  unfold hashV at HCh ⊢
  rw [hcs] at HCh ⊢
  obtain ⟨o, ho⟩ : ∃ o, w.heap.size = o := ⟨_, rfl⟩
  have HO := hid ho
  obtain ⟨o1, ho1⟩ : ∃ o1, o + 1 = o1 := ⟨_, rfl⟩
  obtain ⟨o2, ho2⟩ : ∃ o2, o1 + 1 = o2 := ⟨_, rfl⟩
  obtain ⟨o3, ho3⟩ : ∃ o3, o2 + 1 = o3 := ⟨_, rfl⟩
  obtain ⟨o4, ho4⟩ : ∃ o4, o3 + 1 = o4 := ⟨_, rfl⟩
  have HO1 := hid ho1
  have HO2 := hid ho2
  have HO3 := hid ho3
  have HO4 := hid ho4
  clear hR hcs ho ho1 ho2 ho3 ho4
  go_enter Tryz.func52, Tryz.ntmps52
  go_wp2_with fail
  refine (r25Valid_any P Q G A B C k1 k2 k3 _ hP hQ).mono ?_
  rintro e w1 ⟨rfl, hU1⟩
  have HA1 := hid (((nums_six (w := w) (t := 49) HO.out).up (((((Up.refl _).alloc _).alloc _).alloc _).alloc _)).up hU1)
  have HY1 := hid (((nums_three (r := o1) (t := 51) (by have := HO.out; have := HO1.out; have := HO2.out; have := HO3.out; have := HO4.out; simp; omega)).up ((((Up.refl _).alloc _).alloc _).alloc _)).up hU1)
  have HC1 := hid (((Blk.new (g := o2) (t := 55) (by have := HO.out; have := HO1.out; have := HO2.out; have := HO3.out; have := HO4.out; simp; omega) rfl).up (((Up.refl _).alloc _).alloc _)).up hU1)
  have HS1 := hid (((Blk.new (g := o3) (t := 57) (by have := HO.out; have := HO1.out; have := HO2.out; have := HO3.out; have := HO4.out; simp; omega) rfl).up ((Up.refl _).alloc _)).up hU1)
  have HD1 := hid (((nums_three (r := o4) (t := 23) (by have := HO.out; have := HO1.out; have := HO2.out; have := HO3.out; have := HO4.out; simp; omega))).up hU1)
  have HU1 := hid (((((((Up.refl w).alloc _).alloc _).alloc _).alloc _).alloc _).trans hU1)
  clear hU1
  rw [HO.out, HO1.out, HO2.out, HO3.out, HO4.out]
  obtain ⟨⟨c0, c1, c2⟩, c3, c4, c5⟩ := HA1.out
  obtain ⟨e0, e1, e2⟩ := HY1.out
  have s0 := HS1.out.val (i := 0) rfl
  have s1 := HS1.out.val (i := 1) rfl
  have s2 := HS1.out.val (i := 2) rfl
  have s3 := HS1.out.val (i := 3) rfl
  obtain ⟨a0, a1, a2⟩ := HD1.out
  by_cases h : kvB P Q G A B C k1 k2 k3 = true
  case neg =>
    have h' : kvB P Q G A B C k1 k2 k3 = false := by simpa using h
    have hX : T = false := by rw [HB0.out, h']; rfl
    subst hX
    rw [h']
    clear h h'
    go_wp2
    go_ret
    exact ⟨rfl, HU1.out⟩
  have HB1 : Hid (T = (gnB P Q p && ([z, a, b].all (elB P Q) && (exB Q r && (coinC P Q G A B C p root z a b != 0 && cvE P G k1 p z a b (coinC P Q G A B C p root z a b) r))))) := hid (by rw [HB0.out, h]; rfl)
  have C1 := hid h
  rw [h]
  clear h HB0
  obtain ⟨hbv, hk1, hk2, hk3⟩ : bvB P Q G A B C = true ∧ gnB P Q k1 = true ∧ gnB P Q k2 = true ∧ gnB P Q k3 = true := by
    have := C1.out
    simp only [kvB, Bool.and_eq_true] at this
    exact this
  have Hbv := hid hbv
  have g := gv_iff.1 (bv_iff.1 hbv).1
  have g1 := g.P61
  have g2 := g.P4
  have g3 := g.Q3
  have g4 := g.QP
  have g5 := g.G2
  have g6 := g.GP
  have HK1 := hid (gn_el hk1)
  clear hbv hk1 hk2 hk3 g
  go_wp2_with fail
  refine (r25Message_any P Q G p _ g1 (by omega) hQ).mono ?_
  rintro e w2 ⟨rfl, hU2⟩
  have HA2 := hid (HA1.out.up hU2)
  have HY2 := hid (HY1.out.up hU2)
  have HC2 := hid (HC1.out.up hU2)
  have HS2 := hid (HS1.out.up hU2)
  have HD2 := hid (HD1.out.up hU2)
  have HU2 := hid (HU1.out.trans hU2)
  clear hU2 HA1 HY1 HC1 HS1 HD1 HU1 c0 c1 c2 c3 c4 c5 e0 e1 e2 s0 s1 s2 s3 a0 a1 a2
  obtain ⟨⟨c0, c1, c2⟩, c3, c4, c5⟩ := HA2.out
  obtain ⟨e0, e1, e2⟩ := HY2.out
  have s0 := HS2.out.val (i := 0) rfl
  have s1 := HS2.out.val (i := 1) rfl
  have s2 := HS2.out.val (i := 2) rfl
  have s3 := HS2.out.val (i := 3) rfl
  obtain ⟨a0, a1, a2⟩ := HD2.out
  by_cases h : gnB P Q p = true
  case neg =>
    have h' : gnB P Q p = false := by simpa using h
    have hX : T = false := by rw [HB1.out, h']; rfl
    subst hX
    rw [h']
    clear h h'
    go_wp2
    go_ret
    exact ⟨rfl, HU2.out⟩
  have HB2 : Hid (T = ([z, a, b].all (elB P Q) && (exB Q r && (coinC P Q G A B C p root z a b != 0 && cvE P G k1 p z a b (coinC P Q G A B C p root z a b) r)))) := hid (by rw [HB1.out, h]; rfl)
  have C2 := hid h
  rw [h]
  clear h HB1
  go_wp2_with fail
  refine (r25elements_any P Q G z a b r _ g1 (by omega) hQ).mono ?_
  rintro e w3 ⟨rfl, hU3⟩
  have HA3 := hid (HA2.out.up hU3)
  have HY3 := hid (HY2.out.up hU3)
  have HC3 := hid (HC2.out.up hU3)
  have HS3 := hid (HS2.out.up hU3)
  have HD3 := hid (HD2.out.up hU3)
  have HU3 := hid (HU2.out.trans hU3)
  clear hU3 HA2 HY2 HC2 HS2 HD2 HU2 c0 c1 c2 c3 c4 c5 e0 e1 e2 s0 s1 s2 s3 a0 a1 a2
  obtain ⟨⟨c0, c1, c2⟩, c3, c4, c5⟩ := HA3.out
  obtain ⟨e0, e1, e2⟩ := HY3.out
  have s0 := HS3.out.val (i := 0) rfl
  have s1 := HS3.out.val (i := 1) rfl
  have s2 := HS3.out.val (i := 2) rfl
  have s3 := HS3.out.val (i := 3) rfl
  obtain ⟨a0, a1, a2⟩ := HD3.out
  by_cases h : [z, a, b].all (elB P Q) = true
  case neg =>
    have h' : [z, a, b].all (elB P Q) = false := by simpa using h
    have hX : T = false := by rw [HB2.out, h']; rfl
    subst hX
    rw [h']
    clear h h'
    go_wp2
    go_ret
    exact ⟨rfl, HU3.out⟩
  have HB3 : Hid (T = (exB Q r && (coinC P Q G A B C p root z a b != 0 && cvE P G k1 p z a b (coinC P Q G A B C p root z a b) r))) := hid (by rw [HB2.out, h]; rfl)
  have C3 := hid h
  rw [h]
  clear h HB2
  go_wp2_with fail
  refine (r25Scalar_any P Q G r _).mono ?_
  rintro e w4 ⟨rfl, hU4⟩
  have HA4 := hid (HA3.out.up hU4)
  have HY4 := hid (HY3.out.up hU4)
  have HC4 := hid (HC3.out.up hU4)
  have HS4 := hid (HS3.out.up hU4)
  have HD4 := hid (HD3.out.up hU4)
  have HU4 := hid (HU3.out.trans hU4)
  clear hU4 HA3 HY3 HC3 HS3 HD3 HU3 c0 c1 c2 c3 c4 c5 e0 e1 e2 s0 s1 s2 s3 a0 a1 a2
  obtain ⟨⟨c0, c1, c2⟩, c3, c4, c5⟩ := HA4.out
  obtain ⟨e0, e1, e2⟩ := HY4.out
  have s0 := HS4.out.val (i := 0) rfl
  have s1 := HS4.out.val (i := 1) rfl
  have s2 := HS4.out.val (i := 2) rfl
  have s3 := HS4.out.val (i := 3) rfl
  obtain ⟨a0, a1, a2⟩ := HD4.out
  by_cases h : exB Q r = true
  case neg =>
    have h' : exB Q r = false := by simpa using h
    have hX : T = false := by rw [HB3.out, h']; rfl
    subst hX
    rw [h']
    clear h h'
    go_wp2
    go_ret
    exact ⟨rfl, HU4.out⟩
  have HB4 : Hid (T = (coinC P Q G A B C p root z a b != 0 && cvE P G k1 p z a b (coinC P Q G A B C p root z a b) r)) := hid (by rw [HB3.out, h]; rfl)
  have C4 := hid h
  rw [h]
  clear h HB3
  obtain ⟨hz, hx, hy⟩ : elB P Q z = true ∧ elB P Q a = true ∧ elB P Q b = true := by simpa using C3.out
  have HCh2 := hid (fun w' => HCh.out w' (by omega) (by omega))
  obtain ⟨v0, v1⟩ := coinC_range P G A B C p root z a b (Q := Q) (by omega)
  generalize coinC P Q G A B C p root z a b = V at *
  clear HCh
  go_wp2_with (refine wpList_load_row rfl 55 _ rfl o2 rfl 55 cs (0, 0) _ HC4.out Tryz.underlying55 rfl HCz.out ?_)
  refine (HCh2.out _).mono ?_
  rintro e w5 ⟨rfl, hU5⟩
  have HA5 := hid (HA4.out.up hU5)
  have HY5 := hid (HY4.out.up hU5)
  have HC5 := hid (HC4.out.up hU5)
  have HS5 := hid (HS4.out.up hU5)
  have HD5 := hid (HD4.out.up hU5)
  have HU5 := hid (HU4.out.trans hU5)
  clear hU5 HA4 HY4 HC4 HS4 HD4 HU4 c0 c1 c2 c3 c4 c5 e0 e1 e2 s0 s1 s2 s3 a0 a1 a2
  obtain ⟨⟨c0, c1, c2⟩, c3, c4, c5⟩ := HA5.out
  obtain ⟨e0, e1, e2⟩ := HY5.out
  have s0 := HS5.out.val (i := 0) rfl
  have s1 := HS5.out.val (i := 1) rfl
  have s2 := HS5.out.val (i := 2) rfl
  have s3 := HS5.out.val (i := 3) rfl
  obtain ⟨a0, a1, a2⟩ := HD5.out
  by_cases hv : V = 0
  case pos =>
    have dV : (V != 0) = false := by simpa using hv
    have hX : T = false := by rw [HB4.out, dV]; rfl
    subst hX
    clear hv
    have fc0 := cellF c0
    have fc1 := cellF c1
    have fc2 := cellF c2
    have fc3 := cellF c3
    have fc4 := cellF c4
    have fc5 := cellF c5
    have fe0 := cellF e0
    have fe1 := cellF e1
    have fe2 := cellF e2
    have fs0 := cellF s0
    have fs1 := cellF s1
    have fs2 := cellF s2
    have fs3 := cellF s3
    have fa0 := cellF a0
    have fa1 := cellF a1
    have fa2 := cellF a2
    clear c0 c1 c2 c3 c4 c5 e0 e1 e2 s0 s1 s2 s3 a0 a1 a2 hz hx hy v0 v1 g1 g2 g3 g4 g5 g6
    go_wp2_with fail
    refine wp_region_up (by kernel_rfl) (by kernel_rfl) ?_
    repeat (go_big_quiet_step (fail))
    refine wpQuiet_nil ?_
    rintro _ ⟨p', rfl⟩
    go_wp2
    go_ret
    exact ⟨rfl, HU5.out.trans p'.up⟩
  have dV : (V != 0) = true := by simpa using hv
  have HB5 : Hid (T = (pwi P G r == pwi P k1 V * a % P && pwi P p r == pwi P z V * b % P)) := hid (by rw [HB4.out, dV]; rfl)
  clear hv
  obtain ⟨z0, z1, _⟩ := el_iff.1 hz
  obtain ⟨x0, x1, _⟩ := el_iff.1 hx
  obtain ⟨y0, y1, _⟩ := el_iff.1 hy
  obtain ⟨k0, k9, _⟩ := el_iff.1 HK1.out
  obtain ⟨m0, m1, _⟩ := el_iff.1 (gn_el C2.out)
  obtain ⟨r0, r1⟩ := exB_iff.1 C4.out
  have M1 := hid (fun w' => r25power_ok P Q G G r w' (by omega) g6 (by omega) (by omega) g1)
  have M2 := hid (fun w' => r25power_ok P Q G k1 V w' (by omega) k9 (by omega) (by omega) g1)
  have M3 := hid (fun w' => r25power_ok P Q G p r w' (by omega) m1 (by omega) (by omega) g1)
  have M4 := hid (fun w' => r25power_ok P Q G z V w' (by omega) z1 (by omega) (by omega) g1)
  obtain ⟨u0, u1⟩ := pwi_range (P := P) (a := k1) (e := V) (by omega)
  obtain ⟨t0, t1⟩ := pwi_range (P := P) (a := z) (e := V) (by omega)
  generalize pwi P G r = l1 at *
  generalize pwi P k1 V = u at *
  generalize pwi P p r = l2 at *
  generalize pwi P z V = t at *
  have M5 := hid (fun w' => r25times_ok P Q G u a w' u0 u1 (by omega) x1 g1)
  have M6 := hid (fun w' => r25times_ok P Q G t b w' t0 t1 (by omega) y1 g1)
  generalize u * a % P = r1' at *
  generalize t * b % P = r2' at *
  have fc0 := cellF c0
  have fc1 := cellF c1
  have fc2 := cellF c2
  have fc3 := cellF c3
  have fc4 := cellF c4
  have fc5 := cellF c5
  have fe0 := cellF e0
  have fe1 := cellF e1
  have fe2 := cellF e2
  have fs0 := cellF s0
  have fs1 := cellF s1
  have fs2 := cellF s2
  have fs3 := cellF s3
  have fa0 := cellF a0
  have fa1 := cellF a1
  have fa2 := cellF a2
  clear c0 c1 c2 c3 c4 c5 e0 e1 e2 s0 s1 s2 s3 a0 a1 a2 hz hx hy z0 z1 x0 x1 y0 y1 k0 k9 m0 m1 r0 r1 v0 v1 u0 u1 t0 t1 g1 g2 g3 g4 g5 g6
  by_cases hq : l1 = r1'
  · have d : (l1 == r1') = true := by simpa using hq
    have HX : Hid (T = (l2 == r2')) := hid (by rw [HB5.out, d]; rfl)
    clear hq HB5
    go_wp2_with fail
    refine wp_region_up (by kernel_rfl) (by kernel_rfl) ?_
    repeat (go_big_quiet_step ((first
      | (go_at_call 110; first
        | ((with_reducible (show Calls _ _ #[_, .int .i64 G, _] _ _)); exact Calls.up_of (M1.out _))
        | ((with_reducible (show Calls _ _ #[_, .int .i64 k1, _] _ _)); exact Calls.up_of (M2.out _))
        | ((with_reducible (show Calls _ _ #[_, .int .i64 p, _] _ _)); exact Calls.up_of (M3.out _))
        | ((with_reducible (show Calls _ _ #[_, .int .i64 z, _] _ _)); exact Calls.up_of (M4.out _)))
      | (go_at_call 111; first
        | ((with_reducible (show Calls _ _ #[_, .int .i64 u, _] _ _)); exact Calls.up_of (M5.out _))
        | ((with_reducible (show Calls _ _ #[_, .int .i64 t, _] _ _)); exact Calls.up_of (M6.out _))))))
    refine wpQuiet_nil ?_
    rintro _ ⟨p', rfl⟩
    go_wp2
    go_ret
    exact ⟨by rw [HX.out]; rfl, HU5.out.trans p'.up⟩
  · have d : (l1 == r1') = false := by simpa using hq
    have hX : T = false := by rw [HB5.out, d]; rfl
    subst hX
    clear hq HB5
    go_wp2_with fail
    refine wp_region_up (by kernel_rfl) (by kernel_rfl) ?_
    repeat (go_big_quiet_step ((first
      | (go_at_call 110; first
        | ((with_reducible (show Calls _ _ #[_, .int .i64 G, _] _ _)); exact Calls.up_of (M1.out _))
        | ((with_reducible (show Calls _ _ #[_, .int .i64 k1, _] _ _)); exact Calls.up_of (M2.out _))
        | ((with_reducible (show Calls _ _ #[_, .int .i64 p, _] _ _)); exact Calls.up_of (M3.out _))
        | ((with_reducible (show Calls _ _ #[_, .int .i64 z, _] _ _)); exact Calls.up_of (M4.out _)))
      | (go_at_call 111; first
        | ((with_reducible (show Calls _ _ #[_, .int .i64 u, _] _ _)); exact Calls.up_of (M5.out _))
        | ((with_reducible (show Calls _ _ #[_, .int .i64 t, _] _ _)); exact Calls.up_of (M6.out _))))))
    refine wpQuiet_nil ?_
    rintro _ ⟨p', rfl⟩
    go_wp2
    go_ret
    exact ⟨rfl, HU5.out.trans p'.up⟩
end Go.Proofs.YtoaomjdpiealfaaGreatDoor
namespace Go.Proofs.YtoaomjdpiealfaaGreatDoor
open Go.RowKit Go.Sp

theorem sliced_ints {w : World} {v : Value} {xs : List Int} (h : IntsAt w v xs) (r : Room v) (lo hi : Nat) (h1 : lo ≤ hi) (h2 : hi ≤ xs.length) :
    ∃ a n cap, v = .slice a n cap ∧ n = xs.length ∧ n ≤ cap ∧ IntsAt w (sliced a lo hi cap 1) ((xs.drop lo).take (hi - lo)) := by
  obtain ⟨a, n, cap, rfl, hle, hmx, hnone⟩ := r
  obtain ⟨hl, a', cap', hv, hc⟩ := id h
  simp only [Value.slice.injEq] at hv
  obtain ⟨rfl, rfl, rfl⟩ := hv
  refine ⟨a, xs.length, cap, rfl, rfl, hle, ?_⟩
  have hlen : ((xs.drop lo).take (hi - lo)).length = hi - lo := by simp; omega
  by_cases hne : hi - lo = 0
  · have hnil : (xs.drop lo).take (hi - lo) = [] := List.length_eq_zero_iff.1 (by omega)
    rw [hnil]
    unfold sliced
    rw [hne]
    exact ⟨by simp, _, _, rfl, fun hx => absurd rfl hx⟩
  · obtain ⟨b, off, rfl, hcell⟩ := hc (by rintro rfl; simp at h2; omega)
    have := ints_sub (c := cap - lo) h h1 h2
    unfold sliced
    have hcap : cap ≠ lo := by omega
    simpa [hcap, Addr.add_lit] using this

theorem run_lo (a : Option Addr) (n cap k : Nat) (h : k ≤ n) (W : World) : (Instr.slice 103 (.slice a n cap) (some (.int .i64 k)) none none).run Tryz.prog W = .ok (sliced a k n cap 1) W := by
  rw [run_slice_l (P := Tryz.prog) W 103 a n cap (by kernel_rfl) .i64 k (by omega) (by omega)]
  simp [show ∀ W, (sizeOf (Tryz.prog.elem 103)).run Tryz.prog W = .ok 1 W from fun W => by kernel_rfl, Result.andThen]

theorem run_hi (a : Option Addr) (n cap k : Nat) (h : k ≤ cap) (W : World) : (Instr.slice 103 (.slice a n cap) none (some (.int .i64 k)) none).run Tryz.prog W = .ok (sliced a 0 k cap 1) W := by
  rw [run_slice_h (P := Tryz.prog) W 103 a n cap (by kernel_rfl) .i64 k (by omega) (by omega)]
  simp [show ∀ W, (sizeOf (Tryz.prog.elem 103)).run Tryz.prog W = .ok 1 W from fun W => by kernel_rfl, Result.andThen]

/-- v[:k] and v[k:]. -/
theorem sub_runs {w : World} {a : Option Addr} {n cap : Nat} {xs : List Int} (h : IntsAt w (.slice a n cap) xs) (r : Room (.slice a n cap)) (k : Nat) (hk : k ≤ n) :
    ∃ u v, (∀ W, (Instr.slice 103 (.slice a n cap) none (some (.int .i64 k)) none).run Tryz.prog W = .ok u W) ∧ (∀ W, (Instr.slice 103 (.slice a n cap) (some (.int .i64 k)) none none).run Tryz.prog W = .ok v W) ∧
      IntsAt w u (xs.take k) ∧ IntsAt w v (xs.drop k) := by
  have hn : n = xs.length := by
    obtain ⟨_, _, _, hv, _⟩ := h
    simp only [Value.slice.injEq] at hv
    exact hv.2.1
  obtain ⟨a1, n1, c1, hv1, _, hle, i1⟩ := sliced_ints h r 0 k (by omega) (by omega)
  obtain ⟨a2, n2, c2, hv2, _, _, i2⟩ := sliced_ints h r k n (by omega) (by omega)
  simp only [Value.slice.injEq] at hv1 hv2
  obtain ⟨rfl, rfl, rfl⟩ := hv1
  obtain ⟨rfl, -, rfl⟩ := hv2
  refine ⟨_, _, run_hi a n cap k (by omega), run_lo a n cap k hk, by simpa using i1, ?_⟩
  rw [List.take_of_length_le (by simp; omega)] at i2
  exact i2
end Go.Proofs.YtoaomjdpiealfaaGreatDoor
namespace Go.Proofs.YtoaomjdpiealfaaGreatDoor
open Go.RowKit Go.Sp
set_option maxHeartbeats 4000000
set_option maxRecDepth 20000

theorem fMul_ok (P Q G a b : Int) (w : World) (h0 : 0 ≤ a) (h1 : a < Q) (h2 : 0 ≤ b) (h3 : b < Q) (h4 : Q < 2305843009213693952) :
    Calls Tryz.prog 48 #[grp P Q G, .int .i64 a, .int .i64 b] w fun e w' => e = .returned (.int .i64 (a * b % Q)) ∧ Up w w' := by
  go_enter Tryz.func48, Tryz.ntmps48
  go_wp2_with fail
  refine (Mul_ok a b Q _ h0 h1 h2 h3 h4).mono ?_
  rintro e w3 ⟨rfl, hU3⟩
  go_wp2
  go_ret
  exact ⟨rfl, ((Up.refl w).alloc _).trans hU3⟩

theorem fTimes_ok (P Q G a b : Int) (w : World) (h0 : 0 ≤ a) (h1 : a < P) (h2 : 0 ≤ b) (h3 : b < P) (h4 : P < 2305843009213693952) :
    Calls Tryz.prog 106 #[grp P Q G, .int .i64 a, .int .i64 b] w fun e w' => e = .returned (.int .i64 (a * b % P)) ∧ Up w w' := by
  go_enter Tryz.func106, Tryz.ntmps106
  go_wp2_with fail
  refine (Mul_ok a b P _ h0 h1 h2 h3 h4).mono ?_
  rintro e w3 ⟨rfl, hU3⟩
  go_wp2
  go_ret
  exact ⟨rfl, ((Up.refl w).alloc _).trans hU3⟩

theorem fSub_ok (P Q G a b : Int) (w : World) (h0 : 0 ≤ a) (h1 : a < Q) (h2 : 0 ≤ b) (h3 : b < Q) (h4 : Q < 2305843009213693952) :
    Calls Tryz.prog 47 #[grp P Q G, .int .i64 a, .int .i64 b] w fun e w' => e = .returned (.int .i64 ((a - b) % Q)) ∧ Up w w' := by
  go_enter Tryz.func47, Tryz.ntmps47
  go_wp2_with fail
  refine (Sub_ok a b Q _ h0 h1 h2 h3 h4).mono ?_
  rintro e w3 ⟨rfl, hU3⟩
  go_wp2
  go_ret
  exact ⟨rfl, ((Up.refl w).alloc _).trans hU3⟩

theorem fPow_ok (P Q G a e : Int) (w : World) (h0 : 0 ≤ a) (h1 : a < P) (h2 : 0 ≤ e) (h3 : e ≤ 9223372036854775807) (h4 : P < 2305843009213693952) :
    Calls Tryz.prog 105 #[grp P Q G, .int .i64 a, .int .i64 e] w fun e' w' => e' = .returned (.int .i64 (pwi P a e)) ∧ Up w w' := by
  have HP : Hid (pwi P a e = pw a e.toNat P) := hid rfl
  generalize pwi P a e = X at *
  go_enter Tryz.func105, Tryz.ntmps105
  go_wp2_with fail
  refine (Pow_ok a e P _ h0 h1 h2 h3 h4).mono ?_
  rintro e w3 ⟨rfl, hU3⟩
  rw [← HP.out]
  go_wp2
  go_ret
  exact ⟨rfl, ((Up.refl w).alloc _).trans hU3⟩

theorem fScalar_any (P Q G x : Int) (w : World) :
    Calls Tryz.prog 93 #[grp P Q G, .int .i64 x] w fun e w' => e = .returned (.bool (exB Q x)) ∧ Up w w' := by
  have HB : Hid (exB Q x = (decide (0 ≤ x) && decide (x < Q))) := hid rfl
  generalize exB Q x = X at *
  by_cases c1 : x ≥ 0
  case neg =>
    have d1 : decide (x ≥ 0) = false := by simpa using c1
    have hX : X = false := by rw [HB.out, show decide (0 ≤ x) = false from d1]; rfl
    subst hX
    clear c1
    go_enter Tryz.func93, Tryz.ntmps93
    go_wp2
    go_ret
    exact ⟨rfl, (Up.refl w).alloc _⟩
  have d1 : decide (x ≥ 0) = true := by simpa using c1
  have HB2 : Hid (X = decide (x < Q)) := hid (by rw [HB.out, show decide (0 ≤ x) = true from d1]; rfl)
  clear HB
  go_enter Tryz.func93, Tryz.ntmps93
  go_wp2
  go_ret
  exact ⟨by rw [HB2.out]; rfl, (Up.refl w).alloc _⟩

/-- The first error of a view and a signature. -/
def fltE (kv cv ver : Bool) : Int := if kv = true then (if cv = true then (if ver = true then 0 else 12) else 11) else 1

theorem uCheck_any (P Q G A B C k1 k2 k3 m z x y c r p : Int) (root : Nat → Int) (sz sa sb sr : Int) (w : World) (hP : -9223372036854775808 ≤ P) (hQ : Q ≤ 9223372036854775807) (hT : Tab w) (hS : TabS w) (hR : Byt root) :
    Calls Tryz.prog 43 #[bas P Q G A B C, bkey k1 k2 k3, vw m z x y c r, .int .i64 p, hashV root, sgn sz sa sb sr] w fun e w' => e = .returned (.int .i64 (fltE (kvB P Q G A B C k1 k2 k3) (cvB P Q G A B C k1 k2 k3 m z x y c r) (verB P Q G A B C k1 k2 k3 p root sz sa sb sr))) ∧ Up w w' := by
  have M1 := hid (fun w' (hU : Up w w') => resValid_any P Q G A B C k1 k2 k3 w' hP hQ (hT.up hU))
  have M2 := hid (fun w' (hU : Up w w') => resCheckView_any P Q G A B C k1 k2 k3 m z x y c r w' hP hQ (hT.up hU))
  have M3 := hid (fun w' (hU : Up w w') => resVerify_any P Q G A B C k1 k2 k3 p root sz sa sb sr w' hP hQ (hT.up hU) (hS.up hU) hR)
  generalize kvB P Q G A B C k1 k2 k3 = T1 at *
  generalize cvB P Q G A B C k1 k2 k3 m z x y c r = T2 at *
  generalize verB P Q G A B C k1 k2 k3 p root sz sa sb sr = T3 at *
  obtain ⟨E, hE⟩ : ∃ E, fltE T1 T2 T3 = E := ⟨_, rfl⟩
  have HE : Hid (E = if T1 = true then (if T2 = true then (if T3 = true then 0 else 12) else 11) else 1) := hid hE.symm
  rw [hE]
  obtain ⟨cs, hcs⟩ : ∃ cs, arrK .u8 root 32 = cs := ⟨_, rfl⟩
  have HCz : Hid ((Tryz.prog.info? 55).map (·.size) = some cs.size) := hid (by rw [← hcs, arrK_size]; kernel_rfl)
  unfold hashV at M3 ⊢
  rw [hcs] at M3 ⊢
  obtain ⟨o, ho⟩ : ∃ o, w.heap.size = o := ⟨_, rfl⟩
  have HO := hid ho
  obtain ⟨o1, ho1⟩ : ∃ o1, o + 1 = o1 := ⟨_, rfl⟩
  have HO1 := hid ho1
  obtain ⟨o2, ho2⟩ : ∃ o2, o1 + 1 = o2 := ⟨_, rfl⟩
  have HO2 := hid ho2
  obtain ⟨o3, ho3⟩ : ∃ o3, o2 + 1 = o3 := ⟨_, rfl⟩
  have HO3 := hid ho3
  obtain ⟨o4, ho4⟩ : ∃ o4, o3 + 1 = o4 := ⟨_, rfl⟩
  have HO4 := hid ho4
  clear hT hS hR hcs ho ho1 ho2 ho3 ho4 hE
  go_enter Tryz.func43, Tryz.ntmps43
  go_wp2_with fail
  refine (M1.out _ ((((((Up.refl w).alloc _).alloc _).alloc _).alloc _).alloc _)).mono ?_
  rintro e w1 ⟨rfl, hU1⟩
  have HA1 := hid (((nums_six (w := w) (t := 49) HO.out).up (((((Up.refl _).alloc _).alloc _).alloc _).alloc _)).up hU1)
  have HY1 := hid (((nums_three (r := o1) (t := 51) (by have := HO.out; have := HO1.out; have := HO2.out; have := HO3.out; have := HO4.out; simp; omega)).up ((((Up.refl _).alloc _).alloc _).alloc _)).up hU1)
  have HV1 := hid (((nums_six (r := o2) (t := 53) (by have := HO.out; have := HO1.out; have := HO2.out; have := HO3.out; have := HO4.out; simp; omega)).up (((Up.refl _).alloc _).alloc _)).up hU1)
  have HC1 := hid (((Blk.new (g := o3) (t := 55) (by have := HO.out; have := HO1.out; have := HO2.out; have := HO3.out; have := HO4.out; simp; omega) rfl).up ((Up.refl _).alloc _)).up hU1)
  have HS1 := hid (((Blk.new (g := o4) (t := 57) (by have := HO.out; have := HO1.out; have := HO2.out; have := HO3.out; have := HO4.out; simp; omega) rfl)).up hU1)
  have HU1 := hid (((((((Up.refl w).alloc _).alloc _).alloc _).alloc _).alloc _).trans hU1)
  clear hU1
  rw [HO.out, HO1.out, HO2.out, HO3.out, HO4.out]
  obtain ⟨⟨c0, c1, c2⟩, c3, c4, c5⟩ := HA1.out
  obtain ⟨e0, e1, e2⟩ := HY1.out
  obtain ⟨⟨b0, b1, b2⟩, b3, b4, b5⟩ := HV1.out
  have s0 := HS1.out.val (i := 0) rfl
  have s1 := HS1.out.val (i := 1) rfl
  have s2 := HS1.out.val (i := 2) rfl
  have s3 := HS1.out.val (i := 3) rfl
  by_cases h : T1 = true
  case neg =>
    have hE : E = 1 := by rw [HE.out, if_neg h]
    have h' : T1 = false := by simpa using h
    subst hE
    rw [h']
    clear h h'
    go_wp2
    go_ret
    exact ⟨rfl, HU1.out⟩
  have C1 := hid h
  rw [h]
  clear h
  go_wp2_with fail
  refine (M2.out _ (HU1.out)).mono ?_
  rintro e w2 ⟨rfl, hU2⟩
  have HA2 := hid (HA1.out.up hU2)
  have HY2 := hid (HY1.out.up hU2)
  have HV2 := hid (HV1.out.up hU2)
  have HC2 := hid (HC1.out.up hU2)
  have HS2 := hid (HS1.out.up hU2)
  have HU2 := hid (HU1.out.trans hU2)
  clear hU2 HA1 HY1 HV1 HC1 HS1 HU1 c0 c1 c2 c3 c4 c5 e0 e1 e2 b0 b1 b2 b3 b4 b5 s0 s1 s2 s3
  obtain ⟨⟨c0, c1, c2⟩, c3, c4, c5⟩ := HA2.out
  obtain ⟨e0, e1, e2⟩ := HY2.out
  obtain ⟨⟨b0, b1, b2⟩, b3, b4, b5⟩ := HV2.out
  have s0 := HS2.out.val (i := 0) rfl
  have s1 := HS2.out.val (i := 1) rfl
  have s2 := HS2.out.val (i := 2) rfl
  have s3 := HS2.out.val (i := 3) rfl
  by_cases h : T2 = true
  case neg =>
    have hE : E = 11 := by rw [HE.out, if_pos C1.out, if_neg h]
    have h' : T2 = false := by simpa using h
    subst hE
    rw [h']
    clear h h'
    go_wp2
    go_ret
    exact ⟨rfl, HU2.out⟩
  have C2 := hid h
  rw [h]
  clear h
  go_wp2_with (refine wpList_load_row rfl 55 _ rfl o3 rfl 55 cs (0, 0) _ HC2.out Tryz.underlying55 rfl HCz.out ?_)
  refine (M3.out _ (HU2.out)).mono ?_
  rintro e w3 ⟨rfl, hU3⟩
  have HA3 := hid (HA2.out.up hU3)
  have HY3 := hid (HY2.out.up hU3)
  have HV3 := hid (HV2.out.up hU3)
  have HC3 := hid (HC2.out.up hU3)
  have HS3 := hid (HS2.out.up hU3)
  have HU3 := hid (HU2.out.trans hU3)
  clear hU3 HA2 HY2 HV2 HC2 HS2 HU2 c0 c1 c2 c3 c4 c5 e0 e1 e2 b0 b1 b2 b3 b4 b5 s0 s1 s2 s3
  by_cases h : T3 = true
  case neg =>
    have hE : E = 12 := by rw [HE.out, if_pos C1.out, if_pos C2.out, if_neg h]
    have h' : T3 = false := by simpa using h
    subst hE
    rw [h']
    clear h h'
    go_wp2
    go_ret
    exact ⟨rfl, HU3.out⟩
  have C3 := hid h
  rw [h]
  clear h
  have hE : E = 0 := by rw [HE.out, if_pos C1.out, if_pos C2.out, if_pos C3.out]
  subst hE
  go_wp2
  go_ret
  exact ⟨rfl, HU3.out⟩

theorem r26Fault_any (P Q G A B C k1 k2 k3 m z x y c r p : Int) (root : Nat → Int) (sz sa sb sr : Int) (w : World) (hP : -9223372036854775808 ≤ P) (hQ : Q ≤ 9223372036854775807) (hR : Byt root) :
    Calls Tryz.prog 18 #[bas P Q G A B C, bkey k1 k2 k3, vw m z x y c r, .int .i64 p, hashV root, sgn sz sa sb sr] w fun e w' => e = .returned (.int .i64 (fltE (kvB P Q G A B C k1 k2 k3) (cvB P Q G A B C k1 k2 k3 m z x y c r) (verB P Q G A B C k1 k2 k3 p root sz sa sb sr))) ∧ Up w w' := by
  have M1 := hid (fun w' (_ : Up w w') => r25Valid_any P Q G A B C k1 k2 k3 w' hP hQ)
  have M2 := hid (fun w' (_ : Up w w') => r25CheckView_any P Q G A B C k1 k2 k3 m z x y c r w' hP hQ)
  have M3 := hid (fun w' (_ : Up w w') => r25Verify_any P Q G A B C k1 k2 k3 p root sz sa sb sr w' hP hQ hR)
  generalize kvB P Q G A B C k1 k2 k3 = T1 at *
  generalize cvB P Q G A B C k1 k2 k3 m z x y c r = T2 at *
  generalize verB P Q G A B C k1 k2 k3 p root sz sa sb sr = T3 at *
  obtain ⟨E, hE⟩ : ∃ E, fltE T1 T2 T3 = E := ⟨_, rfl⟩
  have HE : Hid (E = if T1 = true then (if T2 = true then (if T3 = true then 0 else 12) else 11) else 1) := hid hE.symm
  rw [hE]
  obtain ⟨cs, hcs⟩ : ∃ cs, arrK .u8 root 32 = cs := ⟨_, rfl⟩
  have HCz : Hid ((Tryz.prog.info? 55).map (·.size) = some cs.size) := hid (by rw [← hcs, arrK_size]; kernel_rfl)
  unfold hashV at M3 ⊢
  rw [hcs] at M3 ⊢
  obtain ⟨o, ho⟩ : ∃ o, w.heap.size = o := ⟨_, rfl⟩
  have HO := hid ho
  obtain ⟨o1, ho1⟩ : ∃ o1, o + 1 = o1 := ⟨_, rfl⟩
  have HO1 := hid ho1
  obtain ⟨o2, ho2⟩ : ∃ o2, o1 + 1 = o2 := ⟨_, rfl⟩
  have HO2 := hid ho2
  obtain ⟨o3, ho3⟩ : ∃ o3, o2 + 1 = o3 := ⟨_, rfl⟩
  have HO3 := hid ho3
  obtain ⟨o4, ho4⟩ : ∃ o4, o3 + 1 = o4 := ⟨_, rfl⟩
  have HO4 := hid ho4
  clear hR hcs ho ho1 ho2 ho3 ho4 hE
  go_enter Tryz.func18, Tryz.ntmps18
  go_wp2_with fail
  refine (M1.out _ ((((((Up.refl w).alloc _).alloc _).alloc _).alloc _).alloc _)).mono ?_
  rintro e w1 ⟨rfl, hU1⟩
  have HA1 := hid (((nums_six (w := w) (t := 49) HO.out).up (((((Up.refl _).alloc _).alloc _).alloc _).alloc _)).up hU1)
  have HY1 := hid (((nums_three (r := o1) (t := 51) (by have := HO.out; have := HO1.out; have := HO2.out; have := HO3.out; have := HO4.out; simp; omega)).up ((((Up.refl _).alloc _).alloc _).alloc _)).up hU1)
  have HV1 := hid (((nums_six (r := o2) (t := 53) (by have := HO.out; have := HO1.out; have := HO2.out; have := HO3.out; have := HO4.out; simp; omega)).up (((Up.refl _).alloc _).alloc _)).up hU1)
  have HC1 := hid (((Blk.new (g := o3) (t := 55) (by have := HO.out; have := HO1.out; have := HO2.out; have := HO3.out; have := HO4.out; simp; omega) rfl).up ((Up.refl _).alloc _)).up hU1)
  have HS1 := hid (((Blk.new (g := o4) (t := 57) (by have := HO.out; have := HO1.out; have := HO2.out; have := HO3.out; have := HO4.out; simp; omega) rfl)).up hU1)
  have HU1 := hid (((((((Up.refl w).alloc _).alloc _).alloc _).alloc _).alloc _).trans hU1)
  clear hU1
  rw [HO.out, HO1.out, HO2.out, HO3.out, HO4.out]
  obtain ⟨⟨c0, c1, c2⟩, c3, c4, c5⟩ := HA1.out
  obtain ⟨e0, e1, e2⟩ := HY1.out
  obtain ⟨⟨b0, b1, b2⟩, b3, b4, b5⟩ := HV1.out
  have s0 := HS1.out.val (i := 0) rfl
  have s1 := HS1.out.val (i := 1) rfl
  have s2 := HS1.out.val (i := 2) rfl
  have s3 := HS1.out.val (i := 3) rfl
  by_cases h : T1 = true
  case neg =>
    have hE : E = 1 := by rw [HE.out, if_neg h]
    have h' : T1 = false := by simpa using h
    subst hE
    rw [h']
    clear h h'
    go_wp2
    go_ret
    exact ⟨rfl, HU1.out⟩
  have C1 := hid h
  rw [h]
  clear h
  go_wp2_with fail
  refine (M2.out _ (HU1.out)).mono ?_
  rintro e w2 ⟨rfl, hU2⟩
  have HA2 := hid (HA1.out.up hU2)
  have HY2 := hid (HY1.out.up hU2)
  have HV2 := hid (HV1.out.up hU2)
  have HC2 := hid (HC1.out.up hU2)
  have HS2 := hid (HS1.out.up hU2)
  have HU2 := hid (HU1.out.trans hU2)
  clear hU2 HA1 HY1 HV1 HC1 HS1 HU1 c0 c1 c2 c3 c4 c5 e0 e1 e2 b0 b1 b2 b3 b4 b5 s0 s1 s2 s3
  obtain ⟨⟨c0, c1, c2⟩, c3, c4, c5⟩ := HA2.out
  obtain ⟨e0, e1, e2⟩ := HY2.out
  obtain ⟨⟨b0, b1, b2⟩, b3, b4, b5⟩ := HV2.out
  have s0 := HS2.out.val (i := 0) rfl
  have s1 := HS2.out.val (i := 1) rfl
  have s2 := HS2.out.val (i := 2) rfl
  have s3 := HS2.out.val (i := 3) rfl
  by_cases h : T2 = true
  case neg =>
    have hE : E = 11 := by rw [HE.out, if_pos C1.out, if_neg h]
    have h' : T2 = false := by simpa using h
    subst hE
    rw [h']
    clear h h'
    go_wp2
    go_ret
    exact ⟨rfl, HU2.out⟩
  have C2 := hid h
  rw [h]
  clear h
  go_wp2_with (refine wpList_load_row rfl 55 _ rfl o3 rfl 55 cs (0, 0) _ HC2.out Tryz.underlying55 rfl HCz.out ?_)
  refine (M3.out _ (HU2.out)).mono ?_
  rintro e w3 ⟨rfl, hU3⟩
  have HA3 := hid (HA2.out.up hU3)
  have HY3 := hid (HY2.out.up hU3)
  have HV3 := hid (HV2.out.up hU3)
  have HC3 := hid (HC2.out.up hU3)
  have HS3 := hid (HS2.out.up hU3)
  have HU3 := hid (HU2.out.trans hU3)
  clear hU3 HA2 HY2 HV2 HC2 HS2 HU2 c0 c1 c2 c3 c4 c5 e0 e1 e2 b0 b1 b2 b3 b4 b5 s0 s1 s2 s3
  by_cases h : T3 = true
  case neg =>
    have hE : E = 12 := by rw [HE.out, if_pos C1.out, if_pos C2.out, if_neg h]
    have h' : T3 = false := by simpa using h
    subst hE
    rw [h']
    clear h h'
    go_wp2
    go_ret
    exact ⟨rfl, HU3.out⟩
  have C3 := hid h
  rw [h]
  clear h
  have hE : E = 0 := by rw [HE.out, if_pos C1.out, if_pos C2.out, if_pos C3.out]
  subst hE
  go_wp2
  go_ret
  exact ⟨rfl, HU3.out⟩

end Go.Proofs.YtoaomjdpiealfaaGreatDoor
namespace Go.Proofs.YtoaomjdpiealfaaGreatDoor
open Go.RowKit Go.Sp
set_option maxHeartbeats 4000000
set_option maxRecDepth 20000

/-- Do factors explain a signature with a challenge by a view? -/
def fitB (P Q G vm vz va vb vc vr s u v p c sz sa sb sr : Int) : Bool :=
  facB Q s u v && (sr == (vr * u % Q + v) % Q && (c == vc * u % Q && (p == pwi P vm s && (sz == pwi P vz s && (sa == pwi P va u * pwi P G v % P && sb == pwi P vb (s * u % Q) * pwi P p v % P)))))

theorem explains_any (P Q G vm vz va vb vc vr s u v p c sz sa sb sr : Int) (w : World) (g1 : P < 2305843009213693952) (g2 : 2 ≤ P) (g4 : Q < 2305843009213693952) (g5 : 0 ≤ G) (g6 : G < P)
    (m0 : 0 ≤ vm) (m1 : vm < P) (z0 : 0 ≤ vz) (z1 : vz < P) (a0 : 0 ≤ va) (a1 : va < P) (b0 : 0 ≤ vb) (b1 : vb < P) (c0 : 0 ≤ vc) (c1 : vc < Q) (r0 : 0 ≤ vr) (r1 : vr < Q) (p0 : 0 ≤ p) (p1 : p < P) :
    Calls Tryz.prog 49 #[grp P Q G, vw vm vz va vb vc vr, .agg #[.int .i64 s, .int .i64 u, .int .i64 v], .int .i64 p, .int .i64 c, sgn sz sa sb sr] w fun e w' => e = .returned (.bool (fitB P Q G vm vz va vb vc vr s u v p c sz sa sb sr)) ∧ Up w w' := by
  have HB : Hid (fitB P Q G vm vz va vb vc vr s u v p c sz sa sb sr = (facB Q s u v && (sr == (vr * u % Q + v) % Q && (c == vc * u % Q && (p == pwi P vm s && (sz == pwi P vz s && (sa == pwi P va u * pwi P G v % P && sb == pwi P vb (s * u % Q) * pwi P p v % P))))))) := hid rfl
  generalize fitB P Q G vm vz va vb vc vr s u v p c sz sa sb sr = T at *
  have HSc := hid (fun w' => fScalar_any P Q G v w')
  obtain ⟨o, ho⟩ : ∃ o, w.heap.size = o := ⟨_, rfl⟩
  have HO := hid ho
  obtain ⟨o1, ho1⟩ : ∃ o1, o + 1 = o1 := ⟨_, rfl⟩
  have HO1 := hid ho1
  obtain ⟨o2, ho2⟩ : ∃ o2, o1 + 1 = o2 := ⟨_, rfl⟩
  have HO2 := hid ho2
  obtain ⟨o3, ho3⟩ : ∃ o3, o2 + 1 = o3 := ⟨_, rfl⟩
  have HO3 := hid ho3
  clear ho ho1 ho2 ho3
  by_cases q0 : s < 1
  case pos =>
    have d0 : decide (s < 1) = true := by simpa using q0
    have hX : T = false := by rw [HB.out, show facB Q s u v = false by simp [facB, nzB]; omega]; rfl
    subst hX
    clear q0
    go_enter Tryz.func49, Tryz.ntmps49
    go_wp2
    go_ret
    exact ⟨rfl, ((((Up.refl w).alloc _).alloc _).alloc _).alloc _⟩
  have d0 : decide (s < 1) = false := by simpa using q0
  by_cases q1 : s ≥ Q
  case pos =>
    have d1 : decide (s ≥ Q) = true := by simpa using q1
    have hX : T = false := by rw [HB.out, show facB Q s u v = false by simp [facB, nzB]; omega]; rfl
    subst hX
    clear q0 q1
    go_enter Tryz.func49, Tryz.ntmps49
    go_wp2
    go_ret
    exact ⟨rfl, ((((Up.refl w).alloc _).alloc _).alloc _).alloc _⟩
  have d1 : decide (s ≥ Q) = false := by simpa using q1
  by_cases q2 : u < 1
  case pos =>
    have d2 : decide (u < 1) = true := by simpa using q2
    have hX : T = false := by rw [HB.out, show facB Q s u v = false by simp [facB, nzB]; omega]; rfl
    subst hX
    clear q0 q1 q2
    go_enter Tryz.func49, Tryz.ntmps49
    go_wp2
    go_ret
    exact ⟨rfl, ((((Up.refl w).alloc _).alloc _).alloc _).alloc _⟩
  have d2 : decide (u < 1) = false := by simpa using q2
  by_cases q3 : u ≥ Q
  case pos =>
    have d3 : decide (u ≥ Q) = true := by simpa using q3
    have hX : T = false := by rw [HB.out, show facB Q s u v = false by simp [facB, nzB]; omega]; rfl
    subst hX
    clear q0 q1 q2 q3
    go_enter Tryz.func49, Tryz.ntmps49
    go_wp2
    go_ret
    exact ⟨rfl, ((((Up.refl w).alloc _).alloc _).alloc _).alloc _⟩
  have d3 : decide (u ≥ Q) = false := by simpa using q3
  go_enter Tryz.func49, Tryz.ntmps49
  go_wp2_with fail
  refine (HSc.out _).mono ?_
  rintro e w1 ⟨rfl, hU1⟩
  have HD1 := hid (((nums_three (w := w) (t := 91) HO.out).up ((((Up.refl _).alloc _).alloc _).alloc _)).up hU1)
  have HV1 := hid (((nums_six (r := o1) (t := 53) (by have := HO.out; have := HO1.out; have := HO2.out; have := HO3.out; simp; omega)).up (((Up.refl _).alloc _).alloc _)).up hU1)
  have HF1 := hid (((nums_three (r := o2) (t := 59) (by have := HO.out; have := HO1.out; have := HO2.out; have := HO3.out; simp; omega)).up ((Up.refl _).alloc _)).up hU1)
  have HS1 := hid (((Blk.new (g := o3) (t := 57) (by have := HO.out; have := HO1.out; have := HO2.out; have := HO3.out; simp; omega) rfl)).up hU1)
  have HU1 := hid ((((((Up.refl w).alloc _).alloc _).alloc _).alloc _).trans hU1)
  clear hU1
  rw [HO.out, HO1.out, HO2.out, HO3.out]
  obtain ⟨la0, la1, la2⟩ := HD1.out
  obtain ⟨⟨lb0, lb1, lb2⟩, lb3, lb4, lb5⟩ := HV1.out
  obtain ⟨lf0, lf1, lf2⟩ := HF1.out
  have ls0 := HS1.out.val (i := 0) rfl
  have ls1 := HS1.out.val (i := 1) rfl
  have ls2 := HS1.out.val (i := 2) rfl
  have ls3 := HS1.out.val (i := 3) rfl
  by_cases hv : exB Q v = true
  case neg =>
    have hv' : exB Q v = false := by simpa using hv
    have hX : T = false := by rw [HB.out, show facB Q s u v = false by simp [facB, hv']]; rfl
    subst hX
    rw [hv']
    clear hv hv'
    go_wp2
    go_ret
    exact ⟨rfl, HU1.out⟩
  obtain ⟨v0, v1⟩ := exB_iff.1 hv
  have HB0 : Hid (T = (sr == (vr * u % Q + v) % Q && (c == vc * u % Q && (p == pwi P vm s && (sz == pwi P vz s && (sa == pwi P va u * pwi P G v % P && sb == pwi P vb (s * u % Q) * pwi P p v % P)))))) := hid (by rw [HB.out, show facB Q s u v = true by simp [facB, nzB, hv]; omega]; rfl)
  rw [hv]
  have r2 := Int.emod_nonneg (vr * u) (show Q ≠ 0 by omega)
  have r3 := Int.emod_lt_of_pos (vr * u) (show 0 < Q by omega)
  have s2 := Int.emod_nonneg (s * u) (show Q ≠ 0 by omega)
  have s3 := Int.emod_lt_of_pos (s * u) (show 0 < Q by omega)
  have M1 := hid (fun w' => fMul_ok P Q G vr u w' r0 r1 (by omega) (by omega) g4)
  have M2 := hid (fun w' => Add_ok (vr * u % Q) v Q w' r2 r3 v0 v1 g4)
  have M3 := hid (fun w' => fMul_ok P Q G vc u w' c0 c1 (by omega) (by omega) g4)
  have M4 := hid (fun w' => fPow_ok P Q G vm s w' m0 m1 (by omega) (by omega) g1)
  have M5 := hid (fun w' => fPow_ok P Q G vz s w' z0 z1 (by omega) (by omega) g1)
  have M6 := hid (fun w' => fPow_ok P Q G va u w' a0 a1 (by omega) (by omega) g1)
  have M7 := hid (fun w' => fPow_ok P Q G G v w' g5 g6 (by omega) (by omega) g1)
  obtain ⟨x0, x1⟩ := pwi_range (P := P) (a := va) (e := u) (by omega)
  obtain ⟨x2, x3⟩ := pwi_range (P := P) (a := G) (e := v) (by omega)
  have M8 := hid (fun w' => fTimes_ok P Q G (pwi P va u) (pwi P G v) w' x0 x1 x2 x3 g1)
  have M9 := hid (fun w' => fMul_ok P Q G s u w' (by omega) (by omega) (by omega) (by omega) g4)
  have M10 := hid (fun w' => fPow_ok P Q G vb (s * u % Q) w' b0 b1 s2 (by omega) g1)
  have M11 := hid (fun w' => fPow_ok P Q G p v w' p0 p1 (by omega) (by omega) g1)
  obtain ⟨y0, y1⟩ := pwi_range (P := P) (a := vb) (e := s * u % Q) (by omega)
  obtain ⟨y2, y3⟩ := pwi_range (P := P) (a := p) (e := v) (by omega)
  have M12 := hid (fun w' => fTimes_ok P Q G (pwi P vb (s * u % Q)) (pwi P p v) w' y0 y1 y2 y3 g1)
  generalize pwi P vb (s * u % Q) = X10 at *
  generalize pwi P p v = X11 at *
  generalize X10 * X11 % P = X12 at *
  generalize pwi P va u = X6 at *
  generalize pwi P G v = X7 at *
  generalize X6 * X7 % P = X8 at *
  generalize pwi P vm s = X4 at *
  generalize pwi P vz s = X5 at *
  generalize s * u % Q = X9 at *
  generalize vr * u % Q = X1 at *
  generalize (X1 + v) % Q = X2 at *
  generalize vc * u % Q = X3 at *
  clear hv q0 q1 q2 q3 v0 v1 r2 r3 s2 s3 x0 x1 x2 x3 y0 y1 y2 y3 m0 m1 z0 z1 a0 a1 b0 b1 c0 c1 r0 r1 p0 p1 g1 g2 g4 g5 g6 HSc HB
  have fla0 := cellF la0
  have fla1 := cellF la1
  have fla2 := cellF la2
  have flb0 := cellF lb0
  have flb1 := cellF lb1
  have flb2 := cellF lb2
  have flb3 := cellF lb3
  have flb4 := cellF lb4
  have flb5 := cellF lb5
  have flf0 := cellF lf0
  have flf1 := cellF lf1
  have flf2 := cellF lf2
  have fls0 := cellF ls0
  have fls1 := cellF ls1
  have fls2 := cellF ls2
  have fls3 := cellF ls3
  clear la0 la1 la2 lb0 lb1 lb2 lb3 lb4 lb5 lf0 lf1 lf2 ls0 ls1 ls2 ls3
  go_wp2_with fail
  refine wp_region_up (by kernel_rfl) (by kernel_rfl) ?_
  repeat (go_big_quiet_step ((first
    | (go_at_call 48; exact Calls.up_of (M1.out _))
    | (go_at_call 88; exact Calls.up_of (M2.out _)))))
  refine wpQuiet_nil ?_
  rintro _ ⟨⟨w2, hU2⟩, rfl⟩
  try dsimp only
  have HD2 := hid (HD1.out.up hU2)
  have HV2 := hid (HV1.out.up hU2)
  have HF2 := hid (HF1.out.up hU2)
  have HS2 := hid (HS1.out.up hU2)
  have HU2 := hid (HU1.out.trans hU2)
  clear hU2 HD1 HV1 HF1 HS1 HU1 fla0 fla1 fla2 flb0 flb1 flb2 flb3 flb4 flb5 flf0 flf1 flf2 fls0 fls1 fls2 fls3
  obtain ⟨la0, la1, la2⟩ := HD2.out
  obtain ⟨⟨lb0, lb1, lb2⟩, lb3, lb4, lb5⟩ := HV2.out
  obtain ⟨lf0, lf1, lf2⟩ := HF2.out
  have ls0 := HS2.out.val (i := 0) rfl
  have ls1 := HS2.out.val (i := 1) rfl
  have ls2 := HS2.out.val (i := 2) rfl
  have ls3 := HS2.out.val (i := 3) rfl
  have fla0 := cellF la0
  have fla1 := cellF la1
  have fla2 := cellF la2
  have flb0 := cellF lb0
  have flb1 := cellF lb1
  have flb2 := cellF lb2
  have flb3 := cellF lb3
  have flb4 := cellF lb4
  have flb5 := cellF lb5
  have flf0 := cellF lf0
  have flf1 := cellF lf1
  have flf2 := cellF lf2
  have fls0 := cellF ls0
  have fls1 := cellF ls1
  have fls2 := cellF ls2
  have fls3 := cellF ls3
  clear la0 la1 la2 lb0 lb1 lb2 lb3 lb4 lb5 lf0 lf1 lf2 ls0 ls1 ls2 ls3
  by_cases t0 : sr = X2
  case neg =>
    have e0 : (sr == X2) = false := by simpa using t0
    have hX : T = false := by rw [HB0.out, e0]; rfl
    subst hX
    clear t0 HB0
    go_wp2_with fail
    refine wp_region_up (by kernel_rfl) (by kernel_rfl) ?_
    try simp only [List.append_eq, List.cons_append, List.nil_append]
    repeat (go_big_quiet_step ((first
      | (go_at_call 48; first
        | ((with_reducible (show Calls _ _ #[_, .int .i64 vc, .int .i64 u] _ _)); exact Calls.up_of (M3.out _))
        | ((with_reducible (show Calls _ _ #[_, .int .i64 s, .int .i64 u] _ _)); exact Calls.up_of (M9.out _)))
      | (go_at_call 105; first
        | ((with_reducible (show Calls _ _ #[_, .int .i64 vm, .int .i64 s] _ _)); exact Calls.up_of (M4.out _))
        | ((with_reducible (show Calls _ _ #[_, .int .i64 vz, .int .i64 s] _ _)); exact Calls.up_of (M5.out _))
        | ((with_reducible (show Calls _ _ #[_, .int .i64 va, .int .i64 u] _ _)); exact Calls.up_of (M6.out _))
        | ((with_reducible (show Calls _ _ #[_, .int .i64 G, .int .i64 v] _ _)); exact Calls.up_of (M7.out _))
        | ((with_reducible (show Calls _ _ #[_, .int .i64 vb, .int .i64 X9] _ _)); exact Calls.up_of (M10.out _))
        | ((with_reducible (show Calls _ _ #[_, .int .i64 p, .int .i64 v] _ _)); exact Calls.up_of (M11.out _)))
      | (go_at_call 106; first
        | ((with_reducible (show Calls _ _ #[_, .int .i64 X6, _] _ _)); exact Calls.up_of (M8.out _))
        | ((with_reducible (show Calls _ _ #[_, .int .i64 X10, _] _ _)); exact Calls.up_of (M12.out _))))))
    refine wpQuiet_nil ?_
    rintro _ ⟨p', rfl⟩
    go_wp2
    go_ret
    exact ⟨rfl, HU2.out.trans p'.up⟩
  have e0 : (sr == X2) = true := by simpa using t0
  have HB1 : Hid (T = (c == X3 && (p == X4 && (sz == X5 && (sa == X8 && (sb == X12)))))) := hid (by rw [HB0.out, e0]; rfl)
  clear t0 HB0
  by_cases t1 : c = X3
  case neg =>
    have e1 : (c == X3) = false := by simpa using t1
    have hX : T = false := by rw [HB1.out, e1]; rfl
    subst hX
    clear t1 HB1
    go_wp2_with fail
    refine wp_region_up (by kernel_rfl) (by kernel_rfl) ?_
    try simp only [List.append_eq, List.cons_append, List.nil_append]
    repeat (go_big_quiet_step ((first
      | (go_at_call 48; first
        | ((with_reducible (show Calls _ _ #[_, .int .i64 vc, .int .i64 u] _ _)); exact Calls.up_of (M3.out _))
        | ((with_reducible (show Calls _ _ #[_, .int .i64 s, .int .i64 u] _ _)); exact Calls.up_of (M9.out _)))
      | (go_at_call 105; first
        | ((with_reducible (show Calls _ _ #[_, .int .i64 vm, .int .i64 s] _ _)); exact Calls.up_of (M4.out _))
        | ((with_reducible (show Calls _ _ #[_, .int .i64 vz, .int .i64 s] _ _)); exact Calls.up_of (M5.out _))
        | ((with_reducible (show Calls _ _ #[_, .int .i64 va, .int .i64 u] _ _)); exact Calls.up_of (M6.out _))
        | ((with_reducible (show Calls _ _ #[_, .int .i64 G, .int .i64 v] _ _)); exact Calls.up_of (M7.out _))
        | ((with_reducible (show Calls _ _ #[_, .int .i64 vb, .int .i64 X9] _ _)); exact Calls.up_of (M10.out _))
        | ((with_reducible (show Calls _ _ #[_, .int .i64 p, .int .i64 v] _ _)); exact Calls.up_of (M11.out _)))
      | (go_at_call 106; first
        | ((with_reducible (show Calls _ _ #[_, .int .i64 X6, _] _ _)); exact Calls.up_of (M8.out _))
        | ((with_reducible (show Calls _ _ #[_, .int .i64 X10, _] _ _)); exact Calls.up_of (M12.out _))))))
    refine wpQuiet_nil ?_
    rintro _ ⟨p', rfl⟩
    go_wp2
    go_ret
    exact ⟨rfl, HU2.out.trans p'.up⟩
  have e1 : (c == X3) = true := by simpa using t1
  have HB2 : Hid (T = (p == X4 && (sz == X5 && (sa == X8 && (sb == X12))))) := hid (by rw [HB1.out, e1]; rfl)
  clear t1 HB1
  by_cases t2 : p = X4
  case neg =>
    have e2 : (p == X4) = false := by simpa using t2
    have hX : T = false := by rw [HB2.out, e2]; rfl
    subst hX
    clear t2 HB2
    go_wp2_with fail
    refine wp_region_up (by kernel_rfl) (by kernel_rfl) ?_
    try simp only [List.append_eq, List.cons_append, List.nil_append]
    repeat (go_big_quiet_step ((first
      | (go_at_call 48; first
        | ((with_reducible (show Calls _ _ #[_, .int .i64 vc, .int .i64 u] _ _)); exact Calls.up_of (M3.out _))
        | ((with_reducible (show Calls _ _ #[_, .int .i64 s, .int .i64 u] _ _)); exact Calls.up_of (M9.out _)))
      | (go_at_call 105; first
        | ((with_reducible (show Calls _ _ #[_, .int .i64 vm, .int .i64 s] _ _)); exact Calls.up_of (M4.out _))
        | ((with_reducible (show Calls _ _ #[_, .int .i64 vz, .int .i64 s] _ _)); exact Calls.up_of (M5.out _))
        | ((with_reducible (show Calls _ _ #[_, .int .i64 va, .int .i64 u] _ _)); exact Calls.up_of (M6.out _))
        | ((with_reducible (show Calls _ _ #[_, .int .i64 G, .int .i64 v] _ _)); exact Calls.up_of (M7.out _))
        | ((with_reducible (show Calls _ _ #[_, .int .i64 vb, .int .i64 X9] _ _)); exact Calls.up_of (M10.out _))
        | ((with_reducible (show Calls _ _ #[_, .int .i64 p, .int .i64 v] _ _)); exact Calls.up_of (M11.out _)))
      | (go_at_call 106; first
        | ((with_reducible (show Calls _ _ #[_, .int .i64 X6, _] _ _)); exact Calls.up_of (M8.out _))
        | ((with_reducible (show Calls _ _ #[_, .int .i64 X10, _] _ _)); exact Calls.up_of (M12.out _))))))
    refine wpQuiet_nil ?_
    rintro _ ⟨p', rfl⟩
    go_wp2
    go_ret
    exact ⟨rfl, HU2.out.trans p'.up⟩
  have e2 : (p == X4) = true := by simpa using t2
  have HB3 : Hid (T = (sz == X5 && (sa == X8 && (sb == X12)))) := hid (by rw [HB2.out, e2]; rfl)
  clear t2 HB2
  by_cases t3 : sz = X5
  case neg =>
    have e3 : (sz == X5) = false := by simpa using t3
    have hX : T = false := by rw [HB3.out, e3]; rfl
    subst hX
    clear t3 HB3
    go_wp2_with fail
    refine wp_region_up (by kernel_rfl) (by kernel_rfl) ?_
    try simp only [List.append_eq, List.cons_append, List.nil_append]
    repeat (go_big_quiet_step ((first
      | (go_at_call 48; first
        | ((with_reducible (show Calls _ _ #[_, .int .i64 vc, .int .i64 u] _ _)); exact Calls.up_of (M3.out _))
        | ((with_reducible (show Calls _ _ #[_, .int .i64 s, .int .i64 u] _ _)); exact Calls.up_of (M9.out _)))
      | (go_at_call 105; first
        | ((with_reducible (show Calls _ _ #[_, .int .i64 vm, .int .i64 s] _ _)); exact Calls.up_of (M4.out _))
        | ((with_reducible (show Calls _ _ #[_, .int .i64 vz, .int .i64 s] _ _)); exact Calls.up_of (M5.out _))
        | ((with_reducible (show Calls _ _ #[_, .int .i64 va, .int .i64 u] _ _)); exact Calls.up_of (M6.out _))
        | ((with_reducible (show Calls _ _ #[_, .int .i64 G, .int .i64 v] _ _)); exact Calls.up_of (M7.out _))
        | ((with_reducible (show Calls _ _ #[_, .int .i64 vb, .int .i64 X9] _ _)); exact Calls.up_of (M10.out _))
        | ((with_reducible (show Calls _ _ #[_, .int .i64 p, .int .i64 v] _ _)); exact Calls.up_of (M11.out _)))
      | (go_at_call 106; first
        | ((with_reducible (show Calls _ _ #[_, .int .i64 X6, _] _ _)); exact Calls.up_of (M8.out _))
        | ((with_reducible (show Calls _ _ #[_, .int .i64 X10, _] _ _)); exact Calls.up_of (M12.out _))))))
    refine wpQuiet_nil ?_
    rintro _ ⟨p', rfl⟩
    go_wp2
    go_ret
    exact ⟨rfl, HU2.out.trans p'.up⟩
  have e3 : (sz == X5) = true := by simpa using t3
  have HB4 : Hid (T = (sa == X8 && (sb == X12))) := hid (by rw [HB3.out, e3]; rfl)
  clear t3 HB3
  by_cases t4 : sa = X8
  case neg =>
    have e4 : (sa == X8) = false := by simpa using t4
    have hX : T = false := by rw [HB4.out, e4]; rfl
    subst hX
    clear t4 HB4
    go_wp2_with fail
    refine wp_region_up (by kernel_rfl) (by kernel_rfl) ?_
    try simp only [List.append_eq, List.cons_append, List.nil_append]
    repeat (go_big_quiet_step ((first
      | (go_at_call 48; first
        | ((with_reducible (show Calls _ _ #[_, .int .i64 vc, .int .i64 u] _ _)); exact Calls.up_of (M3.out _))
        | ((with_reducible (show Calls _ _ #[_, .int .i64 s, .int .i64 u] _ _)); exact Calls.up_of (M9.out _)))
      | (go_at_call 105; first
        | ((with_reducible (show Calls _ _ #[_, .int .i64 vm, .int .i64 s] _ _)); exact Calls.up_of (M4.out _))
        | ((with_reducible (show Calls _ _ #[_, .int .i64 vz, .int .i64 s] _ _)); exact Calls.up_of (M5.out _))
        | ((with_reducible (show Calls _ _ #[_, .int .i64 va, .int .i64 u] _ _)); exact Calls.up_of (M6.out _))
        | ((with_reducible (show Calls _ _ #[_, .int .i64 G, .int .i64 v] _ _)); exact Calls.up_of (M7.out _))
        | ((with_reducible (show Calls _ _ #[_, .int .i64 vb, .int .i64 X9] _ _)); exact Calls.up_of (M10.out _))
        | ((with_reducible (show Calls _ _ #[_, .int .i64 p, .int .i64 v] _ _)); exact Calls.up_of (M11.out _)))
      | (go_at_call 106; first
        | ((with_reducible (show Calls _ _ #[_, .int .i64 X6, _] _ _)); exact Calls.up_of (M8.out _))
        | ((with_reducible (show Calls _ _ #[_, .int .i64 X10, _] _ _)); exact Calls.up_of (M12.out _))))))
    refine wpQuiet_nil ?_
    rintro _ ⟨p', rfl⟩
    go_wp2
    go_ret
    exact ⟨rfl, HU2.out.trans p'.up⟩
  have e4 : (sa == X8) = true := by simpa using t4
  have HB5 : Hid (T = (sb == X12)) := hid (by rw [HB4.out, e4]; rfl)
  clear t4 HB4
  go_wp2_with fail
  refine wp_region_up (by kernel_rfl) (by kernel_rfl) ?_
  try simp only [List.append_eq, List.cons_append, List.nil_append]
  repeat (go_big_quiet_step ((first
    | (go_at_call 48; first
      | ((with_reducible (show Calls _ _ #[_, .int .i64 vc, .int .i64 u] _ _)); exact Calls.up_of (M3.out _))
      | ((with_reducible (show Calls _ _ #[_, .int .i64 s, .int .i64 u] _ _)); exact Calls.up_of (M9.out _)))
    | (go_at_call 105; first
      | ((with_reducible (show Calls _ _ #[_, .int .i64 vm, .int .i64 s] _ _)); exact Calls.up_of (M4.out _))
      | ((with_reducible (show Calls _ _ #[_, .int .i64 vz, .int .i64 s] _ _)); exact Calls.up_of (M5.out _))
      | ((with_reducible (show Calls _ _ #[_, .int .i64 va, .int .i64 u] _ _)); exact Calls.up_of (M6.out _))
      | ((with_reducible (show Calls _ _ #[_, .int .i64 G, .int .i64 v] _ _)); exact Calls.up_of (M7.out _))
      | ((with_reducible (show Calls _ _ #[_, .int .i64 vb, .int .i64 X9] _ _)); exact Calls.up_of (M10.out _))
      | ((with_reducible (show Calls _ _ #[_, .int .i64 p, .int .i64 v] _ _)); exact Calls.up_of (M11.out _)))
    | (go_at_call 106; first
      | ((with_reducible (show Calls _ _ #[_, .int .i64 X6, _] _ _)); exact Calls.up_of (M8.out _))
      | ((with_reducible (show Calls _ _ #[_, .int .i64 X10, _] _ _)); exact Calls.up_of (M12.out _))))))
  refine wpQuiet_nil ?_
  rintro _ ⟨p', rfl⟩
  go_wp2
  go_ret
  exact ⟨by rw [HB5.out]; rfl, HU2.out.trans p'.up⟩
end Go.Proofs.YtoaomjdpiealfaaGreatDoor
