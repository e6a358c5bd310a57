/- Restrictive signatures: which are right. The reference's SHA-256: numbers in bytes, the padded form, the constants. -/
import Derived.Test.YtdlcmpbpdbpanaaGreatDoorMUnlinkExplains34
import Derived.Test.YtdlcmpbpdbpanaaGreatDoorMUnlinkExplains18
import Derived.Test.YtdlcmpbpdbpanaaGreatDoorMUnlinkExplains31
namespace Go.Proofs.YtdlcmpbpdbpanaaGreatDoor
open Go.RowKit Go.Sp
set_option maxHeartbeats 4000000
set_option maxRecDepth 20000

/-- A right signature. -/
def verB (P Q G A B C k1 k2 k3 p : Int) (root : Nat → Int) (z a b r : Int) : Bool :=
  kvB P Q G A B C k1 k2 k3 && (gnB P Q p && (exB Q r && ([z, a, b].all (elB P Q) && (coinC P Q G A B C p root z a b != 0 && cvE P G k1 p z a b (coinC P Q G A B C p root z a b) r))))

theorem resVerify_any (P Q G A B C k1 k2 k3 p : Int) (root : Nat → Int) (z a b r : Int) (w : World) (hP : -9223372036854775808 ≤ P) (hQ : Q ≤ 9223372036854775807) (hT : Tab w) (hS : TabS w) (hR : Byt root) :
    Calls Tryz.prog 18 #[bas P Q G A B C, bkey k1 k2 k3, .int .i64 p, hashV root, sgn z a b r] w fun e w' => e = .returned (.bool (verB P Q G A B C k1 k2 k3 p root z a b r)) ∧ Up w w' := by
  have HT := hid hT
  have HB0 : Hid (verB P Q G A B C k1 k2 k3 p root z a b r = (kvB P Q G A B C k1 k2 k3 && (gnB P Q p && (exB Q r && ([z, a, b].all (elB P Q) && (coinC P Q G A B C p root z a b != 0 && cvE P G k1 p z a b (coinC P Q G A B C p root z a b) r)))))) := hid rfl
  generalize verB P Q G A B C k1 k2 k3 p root z a b r = T at *
  have HCh := hid (fun w' (hU : Up w w') => resChallenge_any P Q G A B C p root z a b r w' hP hQ (hT.up hU) (hS.up hU) hR)
  have HR := hid hR
  obtain ⟨cs, hcs⟩ : ∃ cs, arrK .u8 root 32 = cs := ⟨_, rfl⟩
  have HCz : Hid ((Tryz.prog.info? 31).map (·.size) = some cs.size) := hid (by rw [← hcs, arrK_size]; kernel_rfl)
  unfold hashV at HCh ⊢
  rw [hcs] at HCh ⊢
  obtain ⟨o, ho⟩ : ∃ o, w.heap.size = o := ⟨_, rfl⟩
  have HO := hid ho
  obtain ⟨o1, ho1⟩ : ∃ o1, o + 1 = o1 := ⟨_, rfl⟩
  obtain ⟨o2, ho2⟩ : ∃ o2, o1 + 1 = o2 := ⟨_, rfl⟩
  obtain ⟨o3, ho3⟩ : ∃ o3, o2 + 1 = o3 := ⟨_, rfl⟩
  obtain ⟨o4, ho4⟩ : ∃ o4, o3 + 1 = o4 := ⟨_, rfl⟩
  have HO1 := hid ho1
  have HO2 := hid ho2
  have HO3 := hid ho3
  have HO4 := hid ho4
  clear hT hS hR hcs ho ho1 ho2 ho3 ho4
  go_enter Tryz.func18, Tryz.ntmps18
  go_wp2_with fail
  refine (resValid_any P Q G A B C k1 k2 k3 _ hP hQ (HT.out.up (((((Up.refl w).alloc _).alloc _).alloc _).alloc _))).mono ?_
  rintro e w1 ⟨rfl, hU1⟩
  have HA1 := hid (((nums_six (w := w) (t := 25) HO.out).up ((((Up.refl _).alloc _).alloc _).alloc _)).up hU1)
  have HY1 := hid (((nums_three (r := o1) (t := 27) (by have := HO.out; have := HO1.out; have := HO2.out; have := HO3.out; have := HO4.out; simp; omega)).up (((Up.refl _).alloc _).alloc _)).up hU1)
  have HC1 := hid (((Blk.new (g := o2) (t := 31) (by have := HO.out; have := HO1.out; have := HO2.out; have := HO3.out; have := HO4.out; simp; omega) rfl).up ((Up.refl _).alloc _)).up hU1)
  have HS1 := hid (((Blk.new (g := o3) (t := 33) (by have := HO.out; have := HO1.out; have := HO2.out; have := HO3.out; have := HO4.out; simp; omega) rfl)).up hU1)
  have HU1 := hid ((((((Up.refl w).alloc _).alloc _).alloc _).alloc _).trans hU1)
  clear hU1
  rw [HO.out, HO1.out, HO2.out, HO3.out]
  obtain ⟨⟨c0, c1, c2⟩, c3, c4, c5⟩ := HA1.out
  obtain ⟨e0, e1, e2⟩ := HY1.out
  have s0 := HS1.out.val (i := 0) rfl
  have s1 := HS1.out.val (i := 1) rfl
  have s2 := HS1.out.val (i := 2) rfl
  have s3 := HS1.out.val (i := 3) rfl
  by_cases h : kvB P Q G A B C k1 k2 k3 = true
  case neg =>
    have h' : kvB P Q G A B C k1 k2 k3 = false := by simpa using h
    have hX : T = false := by rw [HB0.out, h']; rfl
    subst hX
    rw [h']
    clear h h'
    go_wp2
    go_ret
    exact ⟨rfl, HU1.out⟩
  have HB1 : Hid (T = (gnB P Q p && (exB Q r && ([z, a, b].all (elB P Q) && (coinC P Q G A B C p root z a b != 0 && cvE P G k1 p z a b (coinC P Q G A B C p root z a b) r))))) := hid (by rw [HB0.out, h]; rfl)
  have C1 := hid h
  rw [h]
  clear h HB0
  obtain ⟨hbv, hk1, hk2, hk3⟩ : bvB P Q G A B C = true ∧ gnB P Q k1 = true ∧ gnB P Q k2 = true ∧ gnB P Q k3 = true := by
    have := C1.out
    simp only [kvB, Bool.and_eq_true] at this
    exact this
  have Hbv := hid hbv
  have g := gv_iff.1 (bv_iff.1 hbv).1
  have g1 := g.P61
  have g2 := g.P4
  have g3 := g.Q3
  have g4 := g.QP
  have g5 := g.G2
  have g6 := g.GP
  have HK1 := hid (gn_el hk1)
  clear hbv hk1 hk2 hk3 g
  go_wp2_with fail
  refine (resMessage_any P Q G A B C p _ g1 (by omega) hQ).mono ?_
  rintro e w2 ⟨rfl, hU2⟩
  have HA2 := hid (HA1.out.up hU2)
  have HY2 := hid (HY1.out.up hU2)
  have HC2 := hid (HC1.out.up hU2)
  have HS2 := hid (HS1.out.up hU2)
  have HU2 := hid (HU1.out.trans hU2)
  clear hU2 HA1 HY1 HC1 HS1 HU1 c0 c1 c2 c3 c4 c5 e0 e1 e2 s0 s1 s2 s3
  obtain ⟨⟨c0, c1, c2⟩, c3, c4, c5⟩ := HA2.out
  obtain ⟨e0, e1, e2⟩ := HY2.out
  have s0 := HS2.out.val (i := 0) rfl
  have s1 := HS2.out.val (i := 1) rfl
  have s2 := HS2.out.val (i := 2) rfl
  have s3 := HS2.out.val (i := 3) rfl
  by_cases h : gnB P Q p = true
  case neg =>
    have h' : gnB P Q p = false := by simpa using h
    have hX : T = false := by rw [HB1.out, h']; rfl
    subst hX
    rw [h']
    clear h h'
    go_wp2
    go_ret
    exact ⟨rfl, HU2.out⟩
  have HB2 : Hid (T = (exB Q r && ([z, a, b].all (elB P Q) && (coinC P Q G A B C p root z a b != 0 && cvE P G k1 p z a b (coinC P Q G A B C p root z a b) r)))) := hid (by rw [HB1.out, h]; rfl)
  have C2 := hid h
  rw [h]
  clear h HB1
  go_wp2_with fail
  refine (resScalar_any P Q G A B C r _).mono ?_
  rintro e w3 ⟨rfl, hU3⟩
  have HA3 := hid (HA2.out.up hU3)
  have HY3 := hid (HY2.out.up hU3)
  have HC3 := hid (HC2.out.up hU3)
  have HS3 := hid (HS2.out.up hU3)
  have HU3 := hid (HU2.out.trans hU3)
  clear hU3 HA2 HY2 HC2 HS2 HU2 c0 c1 c2 c3 c4 c5 e0 e1 e2 s0 s1 s2 s3
  obtain ⟨⟨c0, c1, c2⟩, c3, c4, c5⟩ := HA3.out
  obtain ⟨e0, e1, e2⟩ := HY3.out
  have s0 := HS3.out.val (i := 0) rfl
  have s1 := HS3.out.val (i := 1) rfl
  have s2 := HS3.out.val (i := 2) rfl
  have s3 := HS3.out.val (i := 3) rfl
  by_cases h : exB Q r = true
  case neg =>
    have h' : exB Q r = false := by simpa using h
    have hX : T = false := by rw [HB2.out, h']; rfl
    subst hX
    rw [h']
    clear h h'
    go_wp2
    go_ret
    exact ⟨rfl, HU3.out⟩
  have HB3 : Hid (T = ([z, a, b].all (elB P Q) && (coinC P Q G A B C p root z a b != 0 && cvE P G k1 p z a b (coinC P Q G A B C p root z a b) r))) := hid (by rw [HB2.out, h]; rfl)
  have C3 := hid h
  rw [h]
  clear h HB2
  by_cases hal : [z, a, b].all (elB P Q) = true
  case neg =>
    have hal' : [z, a, b].all (elB P Q) = false := by simpa using hal
    have hX : T = false := by rw [HB3.out, hal']; rfl
    subst hX
    have hE : chlE P Q G A B C p z a b = 2 := by
      rw [chlE, if_pos Hbv.out, if_neg]
      intro h
      simp only [List.all_cons, List.all_nil, Bool.and_eq_true, Bool.and_true] at h hal
      exact hal h.2
    have hV : chlV P Q G A B C p root z a b = 0 := by rw [chlV, if_neg (by rw [hE]; decide)]
    rw [hE, hV] at HCh
    clear hal hal' hE hV
    go_wp2_with (refine wpList_load_row rfl 31 _ rfl o2 rfl 31 cs (0, 0) _ HC3.out Tryz.underlying31 rfl HCz.out ?_)
    refine (HCh.out _ (HU3.out)).mono ?_
    rintro e w4 ⟨rfl, hU4⟩
    have HA4 := hid (HA3.out.up hU4)
    have HY4 := hid (HY3.out.up hU4)
    have HC4 := hid (HC3.out.up hU4)
    have HS4 := hid (HS3.out.up hU4)
    have HU4 := hid (HU3.out.trans hU4)
    clear hU4 HA3 HY3 HC3 HS3 HU3 c0 c1 c2 c3 c4 c5 e0 e1 e2 s0 s1 s2 s3
    go_wp2
    go_ret
    exact ⟨rfl, HU4.out⟩
  have Hal := hid hal
  have HB4 : Hid (T = (coinC P Q G A B C p root z a b != 0 && cvE P G k1 p z a b (coinC P Q G A B C p root z a b) r)) := hid (by rw [HB3.out, hal]; rfl)
  obtain ⟨hz, hx, hy⟩ : elB P Q z = true ∧ elB P Q a = true ∧ elB P Q b = true := by simpa using hal
  have hE : chlE P Q G A B C p z a b = 0 := by rw [chlE, if_pos Hbv.out, if_pos (by simp [gn_el C2.out, hz, hx, hy])]
  have hV : chlV P Q G A B C p root z a b = coinC P Q G A B C p root z a b := by rw [chlV, if_pos hE]
  rw [hE, hV] at HCh
  obtain ⟨v0, v1⟩ := coinC_range P G A B C p root z a b (Q := Q) (by omega)
  generalize coinC P Q G A B C p root z a b = V at *
  clear hal hE hV HB3
  go_wp2_with (refine wpList_load_row rfl 31 _ rfl o2 rfl 31 cs (0, 0) _ HC3.out Tryz.underlying31 rfl HCz.out ?_)
  refine (HCh.out _ (HU3.out)).mono ?_
  rintro e w4 ⟨rfl, hU4⟩
  have HA4 := hid (HA3.out.up hU4)
  have HY4 := hid (HY3.out.up hU4)
  have HC4 := hid (HC3.out.up hU4)
  have HS4 := hid (HS3.out.up hU4)
  have HU4 := hid (HU3.out.trans hU4)
  clear hU4 HA3 HY3 HC3 HS3 HU3 c0 c1 c2 c3 c4 c5 e0 e1 e2 s0 s1 s2 s3
  obtain ⟨⟨c0, c1, c2⟩, c3, c4, c5⟩ := HA4.out
  obtain ⟨e0, e1, e2⟩ := HY4.out
  have s0 := HS4.out.val (i := 0) rfl
  have s1 := HS4.out.val (i := 1) rfl
  have s2 := HS4.out.val (i := 2) rfl
  have s3 := HS4.out.val (i := 3) rfl
  by_cases hv : V = 0
  case pos =>
    subst hv
    have hX : T = false := by rw [HB4.out]; rfl
    subst hX
    go_wp2
    go_ret
    exact ⟨rfl, HU4.out⟩
  have dV : (V == 0) = false := by simpa using hv
  have HB5 : Hid (T = (pwi P G r == pwi P k1 V * a % P && pwi P p r == pwi P z V * b % P)) := hid (by rw [HB4.out, show (V != 0) = true by simpa using hv]; rfl)
  clear hv
  obtain ⟨z0, z1, _⟩ := el_iff.1 hz
  obtain ⟨x0, x1, _⟩ := el_iff.1 hx
  obtain ⟨y0, y1, _⟩ := el_iff.1 hy
  obtain ⟨k0, k9, _⟩ := el_iff.1 HK1.out
  obtain ⟨m0, m1, _⟩ := el_iff.1 (gn_el C2.out)
  obtain ⟨r0, r1⟩ := exB_iff.1 C3.out
  have M1 := hid (fun w' => resPower_ok P Q G A B C G r w' (by omega) g6 (by omega) (by omega) g1)
  have M2 := hid (fun w' => resProduct_one P Q G A B C k1 V a w' (by omega) k9 (by omega) (by omega) (by omega) x1 g1)
  have M3 := hid (fun w' => resPower_ok P Q G A B C p r w' (by omega) m1 (by omega) (by omega) g1)
  have M4 := hid (fun w' => resProduct_one P Q G A B C z V b w' (by omega) z1 (by omega) (by omega) (by omega) y1 g1)
  generalize pwi P G r = l1 at *
  generalize pwi P k1 V * a % P = r1' at *
  generalize pwi P p r = l2 at *
  generalize pwi P z V * b % P = r2' at *
  have fc0 := cellF c0
  have fc1 := cellF c1
  have fc2 := cellF c2
  have fc3 := cellF c3
  have fc4 := cellF c4
  have fc5 := cellF c5
  have fe0 := cellF e0
  have fe1 := cellF e1
  have fe2 := cellF e2
  have fs0 := cellF s0
  have fs1 := cellF s1
  have fs2 := cellF s2
  have fs3 := cellF s3
  clear c0 c1 c2 c3 c4 c5 e0 e1 e2 s0 s1 s2 s3 hz hx hy z0 z1 x0 x1 y0 y1 k0 k9 m0 m1 r0 r1 v0 v1 g1 g2 g3 g4 g5 g6
  by_cases hq : l1 = r1'
  · have d : (l1 == r1') = true := by simpa using hq
    have HX : Hid (T = (l2 == r2')) := hid (by rw [HB5.out, d]; rfl)
    clear hq HB5
    go_wp2_with fail
    refine wp_region_up (by kernel_rfl) (by kernel_rfl) ?_
    repeat (go_big_quiet_step ((first
      | (go_at_call 72; first
        | ((with_reducible (show Calls _ _ #[_, .int .i64 G, _] _ _)); exact Calls.up_of (M1.out _))
        | ((with_reducible (show Calls _ _ #[_, .int .i64 p, _] _ _)); exact Calls.up_of (M3.out _)))
      | (go_at_call 73; first
        | ((with_reducible (show Calls _ _ #[_, .int .i64 k1, _, _, _] _ _)); exact Calls.up_of (M2.out _))
        | ((with_reducible (show Calls _ _ #[_, .int .i64 z, _, _, _] _ _)); exact Calls.up_of (M4.out _))))))
    refine wpQuiet_nil ?_
    rintro _ ⟨p', rfl⟩
    go_wp2
    go_ret
    exact ⟨by rw [HX.out]; rfl, HU4.out.trans p'.up⟩
  · have d : (l1 == r1') = false := by simpa using hq
    have hX : T = false := by rw [HB5.out, d]; rfl
    subst hX
    clear hq HB5
    go_wp2_with fail
    refine wp_region_up (by kernel_rfl) (by kernel_rfl) ?_
    repeat (go_big_quiet_step ((first
      | (go_at_call 72; first
        | ((with_reducible (show Calls _ _ #[_, .int .i64 G, _] _ _)); exact Calls.up_of (M1.out _))
        | ((with_reducible (show Calls _ _ #[_, .int .i64 p, _] _ _)); exact Calls.up_of (M3.out _)))
      | (go_at_call 73; first
        | ((with_reducible (show Calls _ _ #[_, .int .i64 k1, _, _, _] _ _)); exact Calls.up_of (M2.out _))
        | ((with_reducible (show Calls _ _ #[_, .int .i64 z, _, _, _] _ _)); exact Calls.up_of (M4.out _))))))
    refine wpQuiet_nil ?_
    rintro _ ⟨p', rfl⟩
    go_wp2
    go_ret
    exact ⟨rfl, HU4.out.trans p'.up⟩
end Go.Proofs.YtdlcmpbpdbpanaaGreatDoor
namespace Go.Proofs.YtdlcmpbpdbpanaaGreatDoor
open Go.RowKit Go.Sp
set_option maxHeartbeats 2000000
set_option maxRecDepth 20000

theorem rbytes_any (n : Int) (w : World) (_h0 : 0 ≤ n) (_h1 : n ≤ 9223372036854775807) :
    Calls Tryz.prog 214 #[.int .i64 n] w fun e w' => ∃ v, e = .returned v ∧ OwnS 5 .u8 w' w.heap.size v (beL 8 n) ∧ Up w w' := by
  have HT := hid (beL_take n)
  have HL := hid (beL_length 8 n)
  obtain ⟨S, hS⟩ : ∃ S, beL 8 n = S := ⟨_, rfl⟩
  rw [hS] at HT HL
  rw [hS]
  clear hS
  obtain ⟨o, ho⟩ : ∃ o, w.heap.size = o := ⟨_, rfl⟩
  have HOo := hid ho
  clear ho
  have HLen : Hid (∀ k, k ≤ 8 → (S.take k).length = k) := hid (fun k hk => by rw [List.length_take, HL.out]; omega)
  go_enter Tryz.func214, Tryz.ntmps214
  go_wp2_with fail
  go_loopw [3, 4] (fun vp vi wr => ∃ (k : Nat) (p : Option Addr) (cp : Nat) (j : Int), k ≤ 8 ∧ vi = .int .i64 j ∧ vp = .slice p k cp ∧ -1 ≤ j ∧ j ≤ 7 ∧ Hid (j = 7 - (k : Int)) ∧ Hid (OwnS 5 .u8 wr o (.slice p k cp) (S.take k)) ∧ Hid (Up w wr)) (fun _ vi _ => (intOf vi + 1).toNat)
  case atStart => exact ⟨0, none, 0, 7, by omega, rfl, rfl, by omega, by omega, hid rfl, hid own_none, hid (Up.refl w)⟩
  case round =>
    obtain ⟨k, p, cp, j, hk, rfl, rfl, j0, j1, HJ, HO, HU⟩ := hrel
    by_cases hlt : k < 8
    · have hj := HJ.out
      have hj0 : 0 ≤ j := by omega
      have d0 : decide (j ≥ 0) = true := by simpa using hj0
      have hj8 : (0 : Int) ≤ 8 * j := by omega
      have HE : Hid ((8 * j).toNat = 56 - 8 * k) := hid (by omega)
      have HTk : Hid (S.take k ++ [n / 2 ^ (8 * j).toNat % 256] = S.take (k + 1)) := hid (by rw [HT.out k hlt, HE.out])
      have HLk := hid (HLen.out k (by omega))
      have HLk1 := hid (HLen.out (k + 1) (by omega))
      have hbs : o ≤ wr.heap.size := by have := HU.out.size; have := HOo.out; omega
      have HJ2 : Hid (j - 1 = 7 - ((k + 1 : Nat) : Int)) := hid (by omega)
      clear hj
      go_wp2_with (at_builtin; refine wp_app infoU8 Tryz.underlying51 (by omega) rfl _ _ rfl o rfl rfl (HO.out.up ((Up.refl wr).alloc _)) (seq_new _ _ _) (by have := HLk.out; simp; omega) (by simp; omega) ?_; intro v' w' hO' hg')
      have hU' := (HU.out.alloc _).own (HO.out.up ((Up.refl wr).alloc _)) hg' (by have := HOo.out; omega)
      rw [HTk.out] at hO'
      obtain ⟨p', k', rfl, _, _⟩ := hO'.shape
      rw [HLk1.out] at hO'
      rw [HLk1.out]
      have HO' := hid hO'
      have HU' := hid hU'
      clear hO' hU' hg' HO HU
      go_wp2_with fail
      go_roundw
      case rel => exact ⟨k + 1, p', k', j - 1, by omega, rfl, rfl, by omega, by omega, HJ2, HO', HU'⟩
      case measure => simp [intOf]; omega
    · obtain rfl : k = 8 := by omega
      have d0 : decide (j ≥ 0) = false := by have := HJ.out; simp; omega
      have HE : Hid (S.take 8 = S) := hid (List.take_of_length_le (by rw [HL.out]; omega))
      go_wp2
      go_ret
      exact ⟨_, rfl, by rw [HOo.out, ← HE.out]; exact HO.out, HU.out⟩

theorem rconst_any (g : Nat) (w : World) (hg : w.heap.size = g) :
    Calls Tryz.prog 178 #[] w fun e w' => e = .returned (.slice (some ⟨g, 0, none⟩) 64 64) ∧ Blk w' g 191 (arrK .u32 (fun i => shaK.getD i 0) 64) ∧ Up w w' := by
  subst hg
  go_enter Tryz.func178, Tryz.ntmps178
  go_wp2
  go_ret
  exact ⟨rfl, Blk.new rfl (by kernel_rfl), (Up.refl w).alloc _⟩

theorem rpadded_any (v : Value) (xs : List Int) (w : World) (hv : SeqAt .u8 w v xs) (hl : xs.length ≤ 1099511627000) :
    Calls Tryz.prog 179 #[v] w fun e w' => ∃ v', e = .returned v' ∧ OwnS 5 .u8 w' w.heap.size v' (padL xs) ∧ Up w w' := by
  have HV := hid hv
  obtain ⟨a0, cap, rfl, hcap1, hcap2⟩ := hv.shape
  obtain ⟨n, hn⟩ : ∃ n, xs.length = n := ⟨_, rfl⟩
  obtain ⟨Z, hZ⟩ : ∃ Z, padZ n = Z := ⟨_, rfl⟩
  have HP : Hid (padL xs = padTo xs Z ++ beL 8 (8 * n)) := hid (by rw [padL_eq, hn, hZ])
  have hZ2 : ((n + 1 + Z) % 64 = 56 ∧ Z ≤ 63) ∧ ∀ z, z < Z → (n + 1 + z) % 64 ≠ 56 := by
    rw [← hZ]
    unfold padZ
    refine ⟨⟨by omega, by omega⟩, fun z hz => by omega⟩
  have HZ := hid hZ2
  have HLt := hid (fun z => padTo_length xs z)
  rw [hn] at HLt
  have HStep := hid (padTo_step xs)
  have HZero : Hid (xs ++ [128] = padTo xs 0) := hid (by simp [padTo])
  have HXN := hid hn
  rw [hn] at hl hcap1 HV
  rw [hn]
  obtain ⟨o, ho⟩ : ∃ o, w.heap.size = o := ⟨_, rfl⟩
  have HOo := hid ho
  have HBy := hid (fun w' => rbytes_any (8 * n) w' (by omega) (by omega))
  clear hv hn hZ hZ2 ho
  go_enter Tryz.func179, Tryz.ntmps179
  go_wp2_with (first
    | (at_builtin; refine wp_app infoU8 Tryz.underlying51 (by omega) rfl _ _ rfl w.heap.size (v := .slice (some ⟨w.heap.size, 0, none⟩) 0 0) rfl rfl (own_empty (Blk.new rfl rfl) (Nat.le_refl _)) (HV.out.up ((Up.refl w).alloc _)) (by have := HXN.out; simp; omega) (by simp) ?_; intro v1 w1 hO1 hg1; have hU1 := Up.own ((Up.refl w).alloc _) (own_empty (e := 5) (k := .u8) (Blk.new rfl rfl) (Nat.le_refl _)) hg1 (Nat.le_refl _); have hs1 := hU1.size)
    | (at_builtin; refine wp_app infoU8 Tryz.underlying51 (by omega) rfl _ _ rfl w.heap.size rfl rfl (hO1.up ((Up.refl w1).alloc _)) (seq_new _ _ _) (by have := HXN.out; simp; omega) (by simp; omega) ?_; intro v2 w2 hO2 hg2; have hU2 := (hU1.alloc _).own (hO1.up ((Up.refl w1).alloc _)) hg2 (Nat.le_refl _)))
  rw [List.nil_append, HZero.out] at hO2
  obtain ⟨p2, k2, rfl, _, _⟩ := hO2.shape
  have HLt0 : (padTo xs 0).length = n + 1 := HLt.out 0
  rw [HLt0] at hO2
  rw [HLt0]
  rw [HOo.out] at hO2
  clear HLt0
  have HO2 := hid hO2
  have HU2 := hid hU2
  clear hO1 hO2 hU1 hU2 hg1 hg2 hs1
  go_wp2_with fail
  go_loopw [3] (fun vp wr => ∃ (z : Nat) (p : Option Addr) (c : Nat), z ≤ Z ∧ vp = .slice p (n + 1 + z) c ∧ Hid (OwnS 5 .u8 wr o (.slice p (n + 1 + z) c) (padTo xs z)) ∧ Hid (Up w wr)) (fun vp _ => n + 1 + Z - lenOf vp)
  case atStart => exact ⟨0, _, _, by omega, rfl, HO2, HU2⟩
  case round =>
    clear HO2 HU2
    obtain ⟨z, p, c, hz, rfl, HO, HU⟩ := hrel
    have hsz : o ≤ wr.heap.size := by have := HU.out.size; have := HOo.out; omega
    by_cases hlt : z < Z
    · have HL := hid (HLt.out z)
      have HS := hid (HStep.out z)
      have HS1 := hid (HLt.out (z + 1))
      have hne := HZ.out.2 z hlt
      have hm : n + 1 + z ≤ n + 70 := by have := HZ.out.1.2; omega
      obtain ⟨m, hme⟩ : ∃ m, n + 1 + z = m := ⟨_, rfl⟩
      have HM := hid hme
      rw [hme] at HO HL hne hm
      rw [hme]
      clear hme
      have d1 : ((m : Int) % 64 != 56) = true := by simp; omega
      go_wp2_with (at_builtin; refine wp_app infoU8 Tryz.underlying51 (by omega) rfl _ _ rfl o rfl rfl (HO.out.up ((Up.refl wr).alloc _)) (seq_new _ _ _) (by have := HL.out; simp; omega) (by simp; omega) ?_; intro v' w' hO' hg')
      have hU' := (HU.out.alloc _).own (HO.out.up ((Up.refl wr).alloc _)) hg' (by have := HOo.out; omega)
      rw [HS.out] at hO'
      obtain ⟨p', k', rfl, _, _⟩ := hO'.shape
      rw [HS1.out] at hO'
      rw [HS1.out]
      have HO' := hid hO'
      have HU' := hid hU'
      clear hO' hU' hg'
      go_wp2_with fail
      go_roundw
      case rel => exact ⟨z + 1, _, _, by omega, rfl, HO', HU'⟩
      case measure =>
        have := HM.out
        simp
        omega
    · have hzZ : z = Z := by omega
      have HzZ := hid hzZ
      have HL := hid (HLt.out z)
      have d1 : (((n + 1 + z : Nat) : Int) % 64 != 56) = false := by
        have := HZ.out.1.1
        rw [← hzZ] at this
        simp
        omega
      have hm : n + 1 + z ≤ n + 70 := by have := HZ.out.1.2; omega
      clear hzZ
      obtain ⟨m, hme⟩ : ∃ m, n + 1 + z = m := ⟨_, rfl⟩
      have HM := hid hme
      rw [hme] at HO HL hm d1
      rw [hme]
      clear hme hlt hz
      go_wp2_with fail
      refine (HBy.out _).mono ?_
      rintro e w4 ⟨v4, rfl, hO4, hU4⟩
      have hsz4 := hU4.size
      have HPP : Hid (padTo xs z ++ beL 8 (8 * (n : Int)) = padL xs) := hid (by rw [HzZ.out, HP.out])
      go_wp2_with (at_builtin; refine wp_app infoU8 Tryz.underlying51 (by omega) rfl _ _ rfl o rfl rfl (HO.out.up hU4) hO4.seq (by have := HL.out; simp [beL_length]; omega) (by omega) ?_; intro v5 w5 hO5 hg5)
      have hU5 := (HU.out.trans hU4).own (HO.out.up hU4) hg5 (by have := HOo.out; omega)
      rw [HPP.out] at hO5
      go_ret
      exact ⟨_, rfl, by rw [HOo.out]; exact hO5, hU5⟩
end Go.Proofs.YtdlcmpbpdbpanaaGreatDoor
