/- Logarithms: what is refused, the base 1, small groups; slices.Contains. UnlinkExplains: the example of the chapter, and the walk. Logarithms that there are not. Factors of a signature, and how many there are: the plain law. A region that draws its order, one operation with a guard that says yes. Over any program. -/
import Derived.Test.YtoaomjdpiealfaaGreatDoorMB28
import Derived.Test.YtoaomjdpiealfaaGreatDoorMB29
import Derived.Test.YtoaomjdpiealfaaGreatDoorMB25
import Derived.Test.YtoaomjdpiealfaaGreatDoorMB23
namespace Go.Proofs.YtoaomjdpiealfaaGreatDoor
open Go.RowKit Go.Sp
set_option maxHeartbeats 1000000
set_option maxRecDepth 20000

theorem Log_bad (P Q G b x c : Int) (w : World) (hP : -9223372036854775808 ≤ P) (hQ : Q ≤ 9223372036854775807) (hT : Tab w) (hc : chkI P Q G [b, x] = c) (hc0 : (c != 0) = true) :
    Calls Tryz.prog 45 #[grp P Q G, .int .i64 b, .int .i64 x] w fun e w' => e = .returned (.tuple #[.int .i64 0, .int .i64 c]) ∧ Up w w' := by
  have HT := hid hT
  have HA := hid hc
  clear hT hc
  go_enter Tryz.func45, Tryz.ntmps45
  go_wp2_with fail
  refine (gcheck_any P Q G _ [b, x] _ hP hQ (HT.out.up (((Up.refl w).alloc _).alloc _)) (ints_two (by go_simp) (by go_simp))).mono ?_
  rintro e w1 ⟨rfl, hU1⟩
  rw [HA.out]
  go_wp2
  go_ret2
  exact ⟨rfl, (((Up.refl w).alloc _).alloc _).trans hU1⟩

theorem Log_one (P Q G : Int) (w : World) (hT : Tab w) (hg : gvB P Q G = true) (hQ : Q ≤ 1048576) :
    Calls Tryz.prog 45 #[grp P Q G, .int .i64 1, .int .i64 1] w fun e w' => e = .returned (.tuple #[.int .i64 0, .int .i64 0]) ∧ Up w w' := by
  have HT := hid hT
  have g := gv_iff.1 hg
  have g1 := g.P61
  have g2 := g.P4
  have g3 := g.Q3
  have h1 : elB P Q 1 = true := el_one (by omega)
  have HA := hid (chkI_ok (xs := [1, 1]) hg (by simp [h1]))
  have d2 : decide (Q > 1048576) = false := by simp; omega
  have d3 : decide (1048576 < Q) = false := by simp; omega
  clear hT hg h1 g
  go_enter Tryz.func45, Tryz.ntmps45
  go_wp2_with fail
  refine (gcheck_any P Q G _ [1, 1] _ (by omega) (by omega) (HT.out.up (((Up.refl w).alloc _).alloc _)) (ints_two (by go_simp) (by go_simp))).mono ?_
  rintro e w1 ⟨rfl, hU1⟩
  have HG := hid ((box_reads rfl ((Up.refl _).alloc _)).up hU1)
  obtain ⟨c0, c1, c2⟩ := HG.out
  rw [HA.out]
  go_wp2
  go_ret2
  exact ⟨rfl, (((Up.refl w).alloc _).alloc _).trans hU1⟩

theorem Log_pow (P Q G b : Int) (n : Nat) (w : World) (hT : Tab w) (hg : gvB P Q G = true) (hP : P < 1048577) (hb : elB P Q b = true) (hb1 : b ≠ 1) (hn : n < Q.toNat) :
    Calls Tryz.prog 45 #[grp P Q G, .int .i64 b, .int .i64 (pw b n P)] w fun e w' => e = .returned (.tuple #[.int .i64 n, .int .i64 0]) ∧ Up w w' := by
  have g := gv_iff.1 hg
  have g2 := g.P4
  have g3 := g.Q3
  have g4 := g.QP
  have hq := prim_of g.pQ (by omega)
  exact Log_ok P Q G b (pw b n P) n w hT hg (by omega) hb hb1 (el_pw (by omega) (by omega) hb n) hn rfl fun m hm h => pw_inj (by omega) hq hb hb1 hm hn h

/-- In a small group each element has a logarithm. -/
theorem log_there {P Q G b x : Int} (hg : gvB P Q G = true) (hP : P < 1048576) (hb : elB P Q b = true) (hb1 : b ≠ 1) (hx : elB P Q x = true) : ∃ n : Nat, n < Q.toNat ∧ x = pw b n P := by
  have g := gv_iff.1 hg
  have g4 := g.QP
  have hm := mem_pows (prim_of g.pP hP) (prim_of g.pQ (by omega)) hb hb1 hx
  obtain ⟨n, hn, rfl⟩ := List.mem_map.1 hm
  exact ⟨n, List.mem_range.1 hn, rfl⟩

theorem found_has {P Q x : Int} (h2 : 2 ≤ P) : (found P Q (P - 1).toNat).contains x = elB P Q x := by
  rw [Bool.eq_iff_iff, List.contains_iff_mem, mem_found]
  constructor
  · exact fun h => h.2.2
  · intro h
    have := el_range h
    exact ⟨by omega, by omega, h⟩

theorem chkI_one {P Q G x : Int} (hg : gvB P Q G = true) : chkI P Q G [x] = if elB P Q x = true then 0 else 2 := by
  simp [chkI, hg]
end Go.Proofs.YtoaomjdpiealfaaGreatDoor
namespace Go.Proofs.YtoaomjdpiealfaaGreatDoor
open Go.RowKit Go.Sp
set_option maxHeartbeats 4000000
set_option maxRecDepth 20000

theorem message_ok (P Q G A B C u : Int) (w : World) (g1 : P < 2305843009213693952) (a0 : 0 ≤ A) (a1 : A < P) (b0 : 0 ≤ B) (b1 : B < P) (u0 : 0 ≤ u) (u1 : u ≤ 9223372036854775807) :
    Calls Tryz.prog 94 #[bas P Q G A B C, .int .i64 u] w fun e w' => e = .returned (.int .i64 (pwi P A u * B % P)) ∧ Up w w' := by
  have M1 := hid (fun w' => fPow_ok P Q G A u w' a0 a1 u0 u1 g1)
  obtain ⟨x0, x1⟩ := pwi_range (P := P) (a := A) (e := u) (by omega)
  generalize pwi P A u = X at *
  have M2 := hid (fun w' => fTimes_ok P Q G X B w' x0 x1 b0 b1 g1)
  generalize X * B % P = Y at *
  clear g1 a0 a1 b0 b1 u0 u1 x0 x1
  obtain ⟨o, ho⟩ : ∃ o, w.heap.size = o := ⟨_, rfl⟩
  have HO := hid ho
  obtain ⟨o1, ho1⟩ : ∃ o1, o + 1 = o1 := ⟨_, rfl⟩
  have HO1 := hid ho1
  clear ho ho1
  go_enter Tryz.func94, Tryz.ntmps94
  go_wp2_with fail
  have HA0 := hid ((nums_six (w := w) (t := 49) (x := P) (y := Q) (z := G) (a := A) (b := B) (c := C) HO.out).up ((Up.refl _).alloc (.cells #[.int .i64 P, .int .i64 Q, .int .i64 G] 91)))
  have HD0 : Hid (GrpAt ((w.alloc (.cells #[.int .i64 P, .int .i64 Q, .int .i64 G, .int .i64 A, .int .i64 B, .int .i64 C] 49)).alloc (.cells #[.int .i64 P, .int .i64 Q, .int .i64 G] 91)) o1 P Q G) := hid (nums_three (by have := HO.out; have := HO1.out; simp; omega))
  have HU0 := hid (((Up.refl w).alloc (.cells #[.int .i64 P, .int .i64 Q, .int .i64 G, .int .i64 A, .int .i64 B, .int .i64 C] 49)).alloc (.cells #[.int .i64 P, .int .i64 Q, .int .i64 G] 91))
  generalize (w.alloc (.cells #[.int .i64 P, .int .i64 Q, .int .i64 G, .int .i64 A, .int .i64 B, .int .i64 C] 49)).alloc (.cells #[.int .i64 P, .int .i64 Q, .int .i64 G] 91) = w0 at *
  rw [HO.out, HO1.out]
  obtain ⟨⟨lc0, lc1, lc2⟩, lc3, lc4, lc5⟩ := HA0.out
  obtain ⟨la0, la1, la2⟩ := HD0.out
  have flc0 := cellF lc0
  have flc1 := cellF lc1
  have flc2 := cellF lc2
  have flc3 := cellF lc3
  have flc4 := cellF lc4
  have flc5 := cellF lc5
  have fla0 := cellF la0
  have fla1 := cellF la1
  have fla2 := cellF la2
  clear lc0 lc1 lc2 lc3 lc4 lc5 la0 la1 la2
  refine wp_region_up (by kernel_rfl) (by kernel_rfl) ?_
  repeat (go_big_quiet_step ((first
    | (go_at_call 105; exact Calls.up_of (M1.out _))
    | (go_at_call 106; exact Calls.up_of (M2.out _)))))
  refine wpQuiet_nil ?_
  rintro _ ⟨p', rfl⟩
  go_wp2
  go_ret
  exact ⟨rfl, HU0.out.trans p'.up⟩

theorem spent_ok (P Q G A B C p leaf d r1 r2 : Int) (w : World) (hT : Tab w) (hg : bvB P Q G A B C = true) (hp : gnB P Q p = true) (hl : elB P Q leaf = true) (hd : exB Q d = true) (hr1 : exB Q r1 = true) (hr2 : exB Q r2 = true) (he : pwi P A r1 * pwi P B r2 % P = pwi P p d * leaf % P) :
    Calls Tryz.prog 92 #[bas P Q G A B C, .int .i64 p, .int .i64 leaf, .int .i64 d, .int .i64 r1, .int .i64 r2] w fun e w' => e = .returned (.int .i64 0) ∧ Up w w' := by
  obtain ⟨hg1, ha, hb, hc⟩ := bv_iff.1 hg
  have g := gv_iff.1 hg1
  have g1 := g.P61
  have g2 := g.P4
  have g3 := g.Q3
  have g4 := g.QP
  obtain ⟨a0, a1, _⟩ := el_iff.1 ha.2
  obtain ⟨b0, b1, _⟩ := el_iff.1 hb.2
  obtain ⟨p0, p1, _⟩ := el_iff.1 (gn_el hp)
  obtain ⟨l0, l1, _⟩ := el_iff.1 hl
  obtain ⟨d0, d1⟩ := exB_iff.1 hd
  obtain ⟨q0, q1⟩ := exB_iff.1 hr1
  obtain ⟨q2, q3⟩ := exB_iff.1 hr2
  have hp1 : (p == 1) = false := by
    simp only [gnB, Bool.and_eq_true, bne_iff_ne] at hp
    simpa using hp.1
  have M0 := hid (fun w' (hU : Up w w') => bValid_any P Q G A B C w' (by omega) (by omega) (hT.up hU))
  rw [hg] at M0
  have M1 := hid (fun w' (hU : Up w w') => Contains_any P Q G p w' (by omega) (by omega) (hT.up hU))
  rw [show conB P Q G p = true by rw [conB, hg1, gn_el hp]; rfl] at M1
  have M2 := hid (fun w' (hU : Up w w') => Contains_any P Q G leaf w' (by omega) (by omega) (hT.up hU))
  rw [show conB P Q G leaf = true by rw [conB, hg1, hl]; rfl] at M2
  have M3 := hid (fun w' => fScalar_any P Q G d w')
  have M4 := hid (fun w' => fScalar_any P Q G r1 w')
  have M5 := hid (fun w' => fScalar_any P Q G r2 w')
  rw [hd] at M3
  rw [hr1] at M4
  rw [hr2] at M5
  have N1 := hid (fun w' => fPow_ok P Q G A r1 w' (by omega) a1 q0 (by omega) g1)
  have N2 := hid (fun w' => fPow_ok P Q G B r2 w' (by omega) b1 q2 (by omega) g1)
  have N3 := hid (fun w' => fPow_ok P Q G p d w' (by omega) p1 d0 (by omega) g1)
  obtain ⟨x0, x1⟩ := pwi_range (P := P) (a := A) (e := r1) (by omega)
  obtain ⟨x2, x3⟩ := pwi_range (P := P) (a := B) (e := r2) (by omega)
  obtain ⟨x4, x5⟩ := pwi_range (P := P) (a := p) (e := d) (by omega)
  have N4 := hid (fun w' => fTimes_ok P Q G (pwi P A r1) (pwi P B r2) w' x0 x1 x2 x3 g1)
  have N5 := hid (fun w' => fTimes_ok P Q G (pwi P p d) leaf w' x4 x5 (by omega) l1 g1)
  rw [he] at N4
  generalize pwi P A r1 = X1 at *
  generalize pwi P B r2 = X2 at *
  generalize pwi P p d = X3 at *
  generalize X3 * leaf % P = X4 at *
  have hq : (X4 != X4) = false := by simp
  obtain ⟨o, ho⟩ : ∃ o, w.heap.size = o := ⟨_, rfl⟩
  have HO := hid ho
  clear hT hg hp hl hd hr1 hr2 he hg1 ha hb hc g g1 g2 g3 g4 a0 a1 b0 b1 p0 p1 l0 l1 d0 d1 q0 q1 q2 q3 x0 x1 x2 x3 x4 x5 ho
  go_enter Tryz.func92, Tryz.ntmps92
  go_wp2_with fail
  refine (M0.out _ ((Up.refl w).alloc _)).mono ?_
  rintro e w1 ⟨rfl, hU1⟩
  have HA1 := hid (((nums_six (w := w) (t := 49) HO.out)).up hU1)
  have HU1 := hid (((Up.refl w).alloc _).trans hU1)
  clear hU1
  rw [HO.out]
  obtain ⟨⟨lc0, lc1, lc2⟩, lc3, lc4, lc5⟩ := HA1.out
  have lo1 : o < w1.heap.size := cell_lt lc0
  obtain ⟨b0, hb0⟩ : ∃ b0, w1.heap.size = b0 := ⟨_, rfl⟩
  rw [hb0] at lo1
  go_wp2_with fail
  refine (M1.out _ (HU1.out.alloc _)).mono ?_
  rintro e w2 ⟨rfl, hU2⟩
  have HD2 := hid (((nums_three (w := w1) (t := 91) hb0)).up hU2)
  have hU2 := ((Up.refl w1).alloc _).trans hU2
  have HA2 := hid (HA1.out.up hU2)
  have HU2 := hid (HU1.out.trans hU2)
  clear hU2 HA1 HU1 lc0 lc1 lc2 lc3 lc4 lc5
  try rw [hb0]
  clear hb0 lo1
  obtain ⟨⟨lc0, lc1, lc2⟩, lc3, lc4, lc5⟩ := HA2.out
  obtain ⟨la0, la1, la2⟩ := HD2.out
  go_wp2_with fail
  refine (M2.out _ (HU2.out)).mono ?_
  rintro e w3 ⟨rfl, hU3⟩
  have HA3 := hid (HA2.out.up hU3)
  have HD3 := hid (HD2.out.up hU3)
  have HU3 := hid (HU2.out.trans hU3)
  clear hU3 HA2 HD2 HU2 lc0 lc1 lc2 lc3 lc4 lc5 la0 la1 la2
  obtain ⟨⟨lc0, lc1, lc2⟩, lc3, lc4, lc5⟩ := HA3.out
  obtain ⟨la0, la1, la2⟩ := HD3.out
  go_wp2_with fail
  refine (M3.out _).mono ?_
  rintro e w4 ⟨rfl, hU4⟩
  have HA4 := hid (HA3.out.up hU4)
  have HD4 := hid (HD3.out.up hU4)
  have HU4 := hid (HU3.out.trans hU4)
  clear hU4 HA3 HD3 HU3 lc0 lc1 lc2 lc3 lc4 lc5 la0 la1 la2
  obtain ⟨⟨lc0, lc1, lc2⟩, lc3, lc4, lc5⟩ := HA4.out
  obtain ⟨la0, la1, la2⟩ := HD4.out
  go_wp2_with fail
  refine (M4.out _).mono ?_
  rintro e w5 ⟨rfl, hU5⟩
  have HA5 := hid (HA4.out.up hU5)
  have HD5 := hid (HD4.out.up hU5)
  have HU5 := hid (HU4.out.trans hU5)
  clear hU5 HA4 HD4 HU4 lc0 lc1 lc2 lc3 lc4 lc5 la0 la1 la2
  obtain ⟨⟨lc0, lc1, lc2⟩, lc3, lc4, lc5⟩ := HA5.out
  obtain ⟨la0, la1, la2⟩ := HD5.out
  go_wp2_with fail
  refine (M5.out _).mono ?_
  rintro e w6 ⟨rfl, hU6⟩
  have HA6 := hid (HA5.out.up hU6)
  have HD6 := hid (HD5.out.up hU6)
  have HU6 := hid (HU5.out.trans hU6)
  clear hU6 HA5 HD5 HU5 lc0 lc1 lc2 lc3 lc4 lc5 la0 la1 la2
  obtain ⟨⟨lc0, lc1, lc2⟩, lc3, lc4, lc5⟩ := HA6.out
  obtain ⟨la0, la1, la2⟩ := HD6.out
  have flc0 := cellF lc0
  have flc1 := cellF lc1
  have flc2 := cellF lc2
  have flc3 := cellF lc3
  have flc4 := cellF lc4
  have flc5 := cellF lc5
  have fla0 := cellF la0
  have fla1 := cellF la1
  have fla2 := cellF la2
  clear lc0 lc1 lc2 lc3 lc4 lc5 la0 la1 la2
  go_wp2_with fail
  refine wp_region_up (by kernel_rfl) (by kernel_rfl) ?_
  repeat (go_big_quiet_step ((first
    | (go_at_call 105; first
      | ((with_reducible (show Calls _ _ #[_, .int .i64 A, _] _ _)); exact Calls.up_of (N1.out _))
      | ((with_reducible (show Calls _ _ #[_, .int .i64 B, _] _ _)); exact Calls.up_of (N2.out _))
      | ((with_reducible (show Calls _ _ #[_, .int .i64 p, _] _ _)); exact Calls.up_of (N3.out _)))
    | (go_at_call 106; first
      | ((with_reducible (show Calls _ _ #[_, .int .i64 X1, _] _ _)); exact Calls.up_of (N4.out _))
      | ((with_reducible (show Calls _ _ #[_, .int .i64 X3, _] _ _)); exact Calls.up_of (N5.out _))))))
  refine wpQuiet_nil ?_
  rintro _ ⟨p', rfl⟩
  go_wp2
  go_ret
  exact ⟨rfl, HU6.out.trans p'.up⟩

theorem small26 (w : World) : Calls Tryz.prog 41 #[] w fun e w' => e = .returned (bas 23 11 4 2 3 6) ∧ Up w w' := by
  go_enter Tryz.func41, Tryz.ntmps41
  go_wp2
  go_returns
  exact ⟨rfl, ((Up.refl w).alloc _)⟩

theorem Openings26 (w : World) (hT : Tab w) : Calls Tryz.prog 42 #[bas 23 11 4 2 3 6, .int .i64 12, .int .i64 18, .int .i64 3, .int .i64 10, .int .i64 6] w fun e w' => e = .returned (.tuple #[.int .i64 10, .int .i64 0]) ∧ Up w w' := by
  have M1 := hid (fun w' (hU : Up w w') => spent_ok 23 11 4 2 3 6 12 18 3 10 6 w' (hT.up hU) (by decide +kernel) (by decide +kernel) (by decide +kernel) (by decide +kernel) (by decide +kernel) (by decide +kernel) (by decide +kernel))
  clear hT
  go_enter Tryz.func42, Tryz.ntmps42
  go_wp2_with fail
  refine (M1.out _ ((Up.refl w).alloc _)).mono ?_
  rintro e w1 ⟨rfl, hU1⟩
  have HA1 := hid (((nums_six (w := w) (t := 49) rfl)).up hU1)
  have HU1 := hid (((Up.refl w).alloc _).trans hU1)
  clear hU1
  obtain ⟨⟨lc0, lc1, lc2⟩, lc3, lc4, lc5⟩ := HA1.out
  go_wp2
  go_ret2
  exact ⟨rfl, HU1.out⟩

theorem SecretsZero (w : World) (hT : Tab w) : Calls Tryz.prog 40 #[bas 23 11 4 2 3 6, .int .i64 12, .int .i64 18, .int .i64 3, .int .i64 10, .int .i64 6, .int .i64 3] w fun e w' => e = .returned (.tuple #[.int .i64 0, .int .i64 0, .int .i64 0, .int .i64 10]) ∧ Up w w' := by
  have M1 := hid (fun w' (hU : Up w w') => spent_ok 23 11 4 2 3 6 12 18 3 10 6 w' (hT.up hU) (by decide +kernel) (by decide +kernel) (by decide +kernel) (by decide +kernel) (by decide +kernel) (by decide +kernel) (by decide +kernel))
  have M2 := hid (fun w' => fScalar_any 23 11 4 3 w')
  rw [show exB 11 3 = true by decide +kernel] at M2
  have M3 := hid (fun w' => message_ok 23 11 4 2 3 6 3 w' (by omega) (by omega) (by omega) (by omega) (by omega) (by omega) (by omega))
  rw [show pwi 23 2 3 * 3 % 23 = 1 by decide +kernel] at M3
  clear hT
  go_enter Tryz.func40, Tryz.ntmps40
  go_wp2_with fail
  refine (M1.out _ ((Up.refl w).alloc _)).mono ?_
  rintro e w1 ⟨rfl, hU1⟩
  have HA1 := hid (((nums_six (w := w) (t := 49) rfl)).up hU1)
  have HU1 := hid (((Up.refl w).alloc _).trans hU1)
  clear hU1
  obtain ⟨⟨lc0, lc1, lc2⟩, lc3, lc4, lc5⟩ := HA1.out
  have lo1 : w.heap.size < w1.heap.size := cell_lt lc0
  obtain ⟨b0, hb0⟩ : ∃ b0, w1.heap.size = b0 := ⟨_, rfl⟩
  rw [hb0] at lo1
  go_wp2_with fail
  refine (M2.out _).mono ?_
  rintro e w2 ⟨rfl, hU2⟩
  have HD2 := hid (((nums_three (w := w1) (t := 91) hb0)).up hU2)
  have hU2 := ((Up.refl w1).alloc _).trans hU2
  have HA2 := hid (HA1.out.up hU2)
  have HU2 := hid (HU1.out.trans hU2)
  clear hU2 HA1 HU1 lc0 lc1 lc2 lc3 lc4 lc5
  try rw [hb0]
  clear hb0 lo1
  obtain ⟨⟨lc0, lc1, lc2⟩, lc3, lc4, lc5⟩ := HA2.out
  obtain ⟨la0, la1, la2⟩ := HD2.out
  go_wp2_with fail
  refine (M3.out _).mono ?_
  rintro e w3 ⟨rfl, hU3⟩
  have HA3 := hid (HA2.out.up hU3)
  have HD3 := hid (HD2.out.up hU3)
  have HU3 := hid (HU2.out.trans hU3)
  clear hU3 HA2 HD2 HU2 lc0 lc1 lc2 lc3 lc4 lc5 la0 la1 la2
  obtain ⟨⟨lc0, lc1, lc2⟩, lc3, lc4, lc5⟩ := HA3.out
  obtain ⟨la0, la1, la2⟩ := HD3.out
  go_wp2
  refine bodyPost_ret (results_tmp4 rfl _ _ _) rfl ?_
  exact ⟨rfl, HU3.out⟩

theorem SecretsAt (u M n ds x1 x2 t : Int) (w : World) (hT : Tab w) (hu : 0 ≤ u) (hu1 : u < 11) (hM : pwi 23 2 u * 3 % 23 = M) (hMe : elB 23 11 M = true) (hM1 : M ≠ 1) (hn0 : 0 ≤ n) (hn : n < 11) (hp : pw M n.toNat 23 = 12) (hds : 3 * n % 11 = ds) (ht : ds * u % 11 = t) (h1 : (10 - t) % 11 = x1) (h2 : (6 - ds) % 11 = x2) :
    Calls Tryz.prog 40 #[bas 23 11 4 2 3 6, .int .i64 12, .int .i64 18, .int .i64 3, .int .i64 10, .int .i64 6, .int .i64 u] w fun e w' => e = .returned (.tuple #[.int .i64 n, .int .i64 x1, .int .i64 x2, .int .i64 0]) ∧ Up w w' := by
  have M1 := hid (fun w' (hU : Up w w') => spent_ok 23 11 4 2 3 6 12 18 3 10 6 w' (hT.up hU) (by decide +kernel) (by decide +kernel) (by decide +kernel) (by decide +kernel) (by decide +kernel) (by decide +kernel) (by decide +kernel))
  have M2 := hid (fun w' => fScalar_any 23 11 4 u w')
  rw [show exB 11 u = true by rw [exB_iff]; omega] at M2
  have M3 := hid (fun w' => message_ok 23 11 4 2 3 6 u w' (by omega) (by omega) (by omega) (by omega) (by omega) hu (by omega))
  rw [hM] at M3
  have M4 := hid (fun w' (hU : Up w w') => Log_pow 23 11 4 M n.toNat w' (hT.up hU) (by decide +kernel) (by omega) hMe hM1 (by omega))
  rw [hp, show ((n.toNat : Nat) : Int) = n by omega] at M4
  have hM2 : (M == 1) = false := by simpa using hM1
  have M5 := hid (fun w' => fMul_ok 23 11 4 3 n w' (by omega) (by omega) hn0 hn (by omega))
  rw [hds] at M5
  have d0 : 0 ≤ ds := by rw [← hds]; exact Int.emod_nonneg _ (by omega)
  have d1 : ds < 11 := by rw [← hds]; exact Int.emod_lt_of_pos _ (by omega)
  have t0 : 0 ≤ t := by rw [← ht]; exact Int.emod_nonneg _ (by omega)
  have t1 : t < 11 := by rw [← ht]; exact Int.emod_lt_of_pos _ (by omega)
  have M6 := hid (fun w' => fMul_ok 23 11 4 ds u w' d0 d1 hu hu1 (by omega))
  rw [ht] at M6
  have M7 := hid (fun w' => fSub_ok 23 11 4 10 t w' (by omega) (by omega) t0 t1 (by omega))
  rw [h1] at M7
  have M8 := hid (fun w' => fSub_ok 23 11 4 6 ds w' (by omega) (by omega) d0 d1 (by omega))
  rw [h2] at M8
  clear hT hu hu1 hM hMe hM1 hn0 hn hp hds ht h1 h2 d0 d1 t0 t1
  go_enter Tryz.func40, Tryz.ntmps40
  go_wp2_with fail
  refine (M1.out _ ((Up.refl w).alloc _)).mono ?_
  rintro e w1 ⟨rfl, hU1⟩
  have HA1 := hid (((nums_six (w := w) (t := 49) rfl)).up hU1)
  have HU1 := hid (((Up.refl w).alloc _).trans hU1)
  clear hU1
  obtain ⟨⟨lc0, lc1, lc2⟩, lc3, lc4, lc5⟩ := HA1.out
  have lo1 : w.heap.size < w1.heap.size := cell_lt lc0
  obtain ⟨b0, hb0⟩ : ∃ b0, w1.heap.size = b0 := ⟨_, rfl⟩
  rw [hb0] at lo1
  go_wp2_with fail
  refine (M2.out _).mono ?_
  rintro e w2 ⟨rfl, hU2⟩
  have HD2 := hid (((nums_three (w := w1) (t := 91) hb0)).up hU2)
  have hU2 := ((Up.refl w1).alloc _).trans hU2
  have HA2 := hid (HA1.out.up hU2)
  have HU2 := hid (HU1.out.trans hU2)
  clear hU2 HA1 HU1 lc0 lc1 lc2 lc3 lc4 lc5
  try rw [hb0]
  clear hb0 lo1
  obtain ⟨⟨lc0, lc1, lc2⟩, lc3, lc4, lc5⟩ := HA2.out
  obtain ⟨la0, la1, la2⟩ := HD2.out
  go_wp2_with fail
  refine (M3.out _).mono ?_
  rintro e w3 ⟨rfl, hU3⟩
  have HA3 := hid (HA2.out.up hU3)
  have HD3 := hid (HD2.out.up hU3)
  have HU3 := hid (HU2.out.trans hU3)
  clear hU3 HA2 HD2 HU2 lc0 lc1 lc2 lc3 lc4 lc5 la0 la1 la2
  obtain ⟨⟨lc0, lc1, lc2⟩, lc3, lc4, lc5⟩ := HA3.out
  obtain ⟨la0, la1, la2⟩ := HD3.out
  go_wp2_with fail
  refine (M4.out _ (HU3.out)).mono ?_
  rintro e w4 ⟨rfl, hU4⟩
  have HA4 := hid (HA3.out.up hU4)
  have HD4 := hid (HD3.out.up hU4)
  have HU4 := hid (HU3.out.trans hU4)
  clear hU4 HA3 HD3 HU3 lc0 lc1 lc2 lc3 lc4 lc5 la0 la1 la2
  obtain ⟨⟨lc0, lc1, lc2⟩, lc3, lc4, lc5⟩ := HA4.out
  obtain ⟨la0, la1, la2⟩ := HD4.out
  go_wp2_with fail
  refine (M5.out _).mono ?_
  rintro e w5 ⟨rfl, hU5⟩
  have HA5 := hid (HA4.out.up hU5)
  have HD5 := hid (HD4.out.up hU5)
  have HU5 := hid (HU4.out.trans hU5)
  clear hU5 HA4 HD4 HU4 lc0 lc1 lc2 lc3 lc4 lc5 la0 la1 la2
  obtain ⟨⟨lc0, lc1, lc2⟩, lc3, lc4, lc5⟩ := HA5.out
  obtain ⟨la0, la1, la2⟩ := HD5.out
  have flc0 := cellF lc0
  have flc1 := cellF lc1
  have flc2 := cellF lc2
  have flc3 := cellF lc3
  have flc4 := cellF lc4
  have flc5 := cellF lc5
  have fla0 := cellF la0
  have fla1 := cellF la1
  have fla2 := cellF la2
  clear lc0 lc1 lc2 lc3 lc4 lc5 la0 la1 la2
  go_wp2_with fail
  refine wp_region_up (by kernel_rfl) (by kernel_rfl) ?_
  repeat (go_big_quiet_step ((first
    | (go_at_call 48; exact Calls.up_of (M6.out _))
    | (go_at_call 47; first
      | ((with_reducible (show Calls _ _ #[_, .int .i64 10, _] _ _)); exact Calls.up_of (M7.out _))
      | ((with_reducible (show Calls _ _ #[_, .int .i64 6, _] _ _)); exact Calls.up_of (M8.out _))))))
  refine wpQuiet_nil ?_
  rintro _ ⟨p', rfl⟩
  go_wp2
  refine bodyPost_ret (results_tmp4 rfl _ _ _) rfl ?_
  exact ⟨rfl, HU5.out.trans p'.up⟩

theorem awake26 (w : World) (hT : Tab w) : Calls Tryz.prog 15 #[] w fun e w' => e = .returned (.bool true) ∧ Up w w' := by
  have M1 := hid (fun w' (hU : Up w w') => SecretsAt 5 4 5 4 1 2 9 w' (hT.up hU) (by omega) (by omega) (by decide +kernel) (by decide +kernel) (by omega) (by omega) (by omega) (by decide +kernel) (by decide) (by decide) (by decide) (by decide))
  have M2 := hid (fun w' (hU : Up w w') => SecretsAt 1 6 6 7 3 10 7 w' (hT.up hU) (by omega) (by omega) (by decide +kernel) (by decide +kernel) (by omega) (by omega) (by omega) (by decide +kernel) (by decide) (by decide) (by decide) (by decide))
  have M3 := hid (fun w' (hU : Up w w') => SecretsZero w' (hT.up hU))
  have M4 := hid (fun w' (hU : Up w w') => Openings26 w' (hT.up hU))
  clear hT
  go_enter Tryz.func15, Tryz.ntmps15
  go_wp2_with fail
  refine (small26 _).mono ?_
  rintro e w1 ⟨rfl, hU1⟩
  have HU1 := hid ((Up.refl w).trans hU1)
  clear hU1
  go_wp2_with fail
  refine (M1.out _ (HU1.out)).mono ?_
  rintro e w2 ⟨rfl, hU2⟩
  have HU2 := hid (HU1.out.trans hU2)
  clear hU2 HU1
  go_wp2_with fail
  refine (small26 _).mono ?_
  rintro e w3 ⟨rfl, hU3⟩
  have HU3 := hid (HU2.out.trans hU3)
  clear hU3 HU2
  go_wp2_with fail
  refine (M2.out _ (HU3.out)).mono ?_
  rintro e w4 ⟨rfl, hU4⟩
  have HU4 := hid (HU3.out.trans hU4)
  clear hU4 HU3
  go_wp2_with fail
  refine (small26 _).mono ?_
  rintro e w5 ⟨rfl, hU5⟩
  have HU5 := hid (HU4.out.trans hU5)
  clear hU5 HU4
  go_wp2_with fail
  refine (M3.out _ (HU5.out)).mono ?_
  rintro e w6 ⟨rfl, hU6⟩
  have HU6 := hid (HU5.out.trans hU6)
  clear hU6 HU5
  go_wp2_with fail
  refine (small26 _).mono ?_
  rintro e w7 ⟨rfl, hU7⟩
  have HU7 := hid (HU6.out.trans hU7)
  clear hU7 HU6
  go_wp2_with fail
  refine (M4.out _ (HU7.out)).mono ?_
  rintro e w8 ⟨rfl, hU8⟩
  have HU8 := hid (HU7.out.trans hU8)
  clear hU8 HU7
  go_wp2
  go_ret
  exact ⟨rfl, HU8.out⟩
end Go.Proofs.YtoaomjdpiealfaaGreatDoor
namespace Go.Proofs.YtoaomjdpiealfaaGreatDoor
open Go.RowKit Go.Sp Go.Maps
set_option maxHeartbeats 1000000
set_option maxRecDepth 20000

theorem Log_none (P Q G b x : Int) (w : World) (hT : Tab w) (hg : gvB P Q G = true) (hQ : Q ≤ 1048576) (hb : elB P Q b = true) (hb1 : b ≠ 1) (hx : elB P Q x = true) (huniq : ∀ m : Nat, m < Q.toNat → pw b m P ≠ x) :
    Calls Tryz.prog 45 #[grp P Q G, .int .i64 b, .int .i64 x] w fun e w' => e = .returned (.tuple #[.int .i64 0, .int .i64 7]) ∧ Up w w' := by
  have HT := hid hT
  have g := gv_iff.1 hg
  have g1 := g.P61
  have g2 := g.P4
  have g3 := g.Q3
  obtain ⟨b0, b1, _⟩ := el_iff.1 hb
  obtain ⟨x0, x1, _⟩ := el_iff.1 hx
  have HA := hid (chkI_ok (xs := [b, x]) hg (by simp [hb, hx]))
  have Hb := hid hb
  have Hx := hid hx
  have Hg := hid hg
  have HU := hid huniq
  have d1 : (b == 1) = false := by simp [hb1]
  have d2 : decide (Q > 1048576) = false := by simp; omega
  have d3 : decide (1048576 < Q) = false := by simp; omega
  clear hT g hg hb hx huniq hb1
  have hmm := @run_makeMap Tryz.prog
  go_enter Tryz.func45, Tryz.ntmps45
  go_wp2_with fail
  refine (gcheck_any P Q G _ [b, x] _ (by omega) (by omega) (HT.out.up (((Up.refl w).alloc _).alloc _)) (ints_two (by go_simp) (by go_simp))).mono ?_
  rintro e w1 ⟨rfl, hU1⟩
  rw [HA.out]
  have HU1 := hid ((((Up.refl w).alloc _).alloc _).trans hU1)
  have HG := hid ((box_reads rfl ((Up.refl _).alloc _)).up hU1)
  clear hU1
  obtain ⟨c0, c1, c2⟩ := HG.out
  go_wp2_with fail
  obtain ⟨o, ho⟩ : ∃ o, w.heap.size = o := ⟨_, rfl⟩
  obtain ⟨B, hB⟩ : ∃ B, w1.heap.size = B := ⟨_, rfl⟩
  have hoB : o < B := by have := cell_lt c0; omega
  have Ho := hid ho
  have HB := hid hB
  have HM0 := hid (World.ownsMap_made (H := Nat) w1 Tryz.prog 3 (plainElem Tryz.prog 3))
  have HUm := hid (HU1.out.alloc (.map #[] 0))
  have HGm := hid (HG.out.up ((Up.refl w1).alloc (.map #[] 0)))
  rw [hB] at HM0
  rw [ho] at HGm
  rw [ho, hB]
  clear c0 c1 c2 HG
  go_loopw [10, 35] (fun vy vi wr => ∃ i : Nat, i ≤ 1024 ∧ vy = .int .i64 (x * pw b i P % P) ∧ vi = .int .i64 i ∧ wr.ownsMap Tryz.prog 3 (plainElem Tryz.prog 3) B i (baby Nat P b x i) ∧ Up w wr ∧ GrpAt wr o P Q G) (fun _ vi _ => 1024 - (intOf vi).toNat)
  case atStart => exact ⟨0, by omega, by rw [pw_zero, Int.emod_eq_of_lt (show (0 : Int) ≤ 1 by omega) (by omega), Int.mul_one, Int.emod_eq_of_lt (by omega) x1], rfl, HM0.out, HUm.out, HGm.out⟩
  case round =>
    obtain ⟨i, hi, rfl, rfl, hown, hU, hG⟩ := hrel
    have HUr := hid hU
    have HGr := hid hG
    have Hown := hid hown
    obtain ⟨c0, c1, c2⟩ := hG
    have hBs : B < wr.heap.size := by
      obtain ⟨es, cl, hb, _⟩ := hown
      exact (Array.getElem?_eq_some_iff.1 hb).1
    have p0 := pw_nonneg b i (show 0 < P by omega)
    by_cases hl : i < 1024
    · have y0 := Int.emod_nonneg (x * pw b i P) (show P ≠ 0 by omega)
      have y1 := Int.emod_lt_of_pos (x * pw b i P) (show 0 < P by omega)
      have HN : Hid (x * pw b i P % P * b % P = x * pw b (i + 1) P % P) := hid (by
        rw [pw_add, pw_one_exp (by omega) b1, emul (emod_self (x * pw b i P) P) (rfl : b % P = b % P), Int.mul_assoc, ← emul (rfl : x % P = x % P) (emod_self (pw b i P * b) P)])
      have HS : Hid (baby Nat P b x (i + 1) = (baby Nat P b x i).put (.int .i64 (x * pw b i P % P)) (.lit (.int .i64 i))) := hid rfl
      have hkey : keyOf Tryz.prog 3 (.int .i64 (x * pw b i P % P)) = some (.int .i64 (x * pw b i P % P)) := keyOf_int_mk Tryz.underlying3 (wf_i64 (by omega) (by omega))
      have hval : plainElem (H := Nat) Tryz.prog 3 (.int .i64 (i : Int)) = some (.lit (.int .i64 (i : Int)), []) := plainElem_int Tryz.underlying3 (wf_i64 (by omega) (by omega))
      clear hU p0
      generalize baby Nat P b x i = D at *
      generalize x * pw b i P % P = y at *
      go_wp2_with (at_mapUpdate; refine wpList_mapUpdate_own _ rfl _ _ _ 149 rfl 3 3 keyedInt Tryz.underlying149 _ B i _ rfl hown (by unfold maxLen; omega) _ _ _ rfl rfl hkey _ [] hval ?_; intro w2 hown2 hgrow2; have HG2 := hid (HGr.out.grown hgrow2 hoB); obtain ⟨c0, c1, c2⟩ := HG2.out)
      have HU2 := hid (up_grown HUr.out hgrow2 (fun k hk => by injection hk; rw [Ho.out]; omega))
      refine (Mul_ok y b P _ y0 y1 (by omega) b1 g1).mono ?_
      rintro e w3 ⟨rfl, hU3⟩
      rw [HN.out]
      have HO3 := hid (ownsMap_up hown2 hU3)
      rw [← HS.out] at HO3
      have HU3 := hid (HU2.out.trans hU3)
      have HG3 := hid (HG2.out.up hU3)
      clear hU3 hown2 hgrow2 hown c0 c1 c2 HS
      go_wp2_with fail
      go_roundw
      case rel => exact ⟨i + 1, by omega, rfl, by go_num, HO3.out, HU3.out, HG3.out⟩
      case measure => simp [intOf]; omega
    · obtain rfl : i = 1024 := by omega
      rw [show ((1024 : Nat) : Int) = 1024 from rfl]
      clear hU hown
      have hQ0 : (Q == 0) = false := by simp; omega
      have r0 := Int.emod_nonneg 1024 (show Q ≠ 0 by omega)
      have r1 := Int.emod_lt_of_pos 1024 (show 0 < Q by omega)
      have HP : Hid (pw b (1024 % Q).toNat P = pw b 1024 P) := hid (by
        rw [← pw_mod (by omega) Hb.out 1024]
        congr 1
        obtain ⟨q, rfl⟩ : ∃ q : Nat, Q = q := ⟨Q.toNat, by omega⟩
        rw [Int.toNat_natCast]
        have : (1024 : Int) % (q : Int) = ((1024 % q : Nat) : Int) := by rw [Int.natCast_emod]; rfl
        omega)
      have hQn : ¬ (Q = 0) := by omega
      have hT1 : (1024 : Int).tmod Q = 1024 % Q := Int.tmod_eq_emod_of_nonneg (by omega)
      have hT2 : IntKind.i64.wrap (1024 % Q) = 1024 % Q := IntWalk.i64_in _ (by omega)
      go_wp2_with fail
      go_cut [12, 13] from 50 (fun va vb w' => va = .int .i64 (pw b 1024 P) ∧ vb = .int .i64 0 ∧ Up wr w')
      case first =>
        have hS0 := And.intro c0 (And.intro c1 (And.intro c2 (hid (Up.refl wr))))
        clear c0 c1 c2
        go_region_held3 (fun w' => w'.cell? ⟨o, 0, none⟩ = some (.int .i64 P) ∧ w'.cell? ⟨o, 1, none⟩ = some (.int .i64 Q) ∧ w'.cell? ⟨o, 2, none⟩ = some (.int .i64 G) ∧ Hid (Up wr w')) (first | exact keepG ((Up.refl _).drew) (by assumption) | exact keepG ((Up.refl _).alloc _) (by assumption) | exact keepG (by assumption) (by assumption)) (first
          | (go_at_call 80; refine (Pow_ok b (1024 % Q) P _ (by omega) b1 r0 (by omega) g1).mono ?_; rintro e w9 ⟨rfl, hU9⟩; rw [HP.out]))
        all_goals (go_wp2_with fail; go_meet)
        all_goals exact ⟨rfl, rfl, upOf (by assumption)⟩
      case rest =>
        obtain ⟨rfl, rfl, hU9⟩ := hcut
        have HG9 := hid (HGr.out.up hU9)
        have HU9 := hid (HUr.out.trans hU9)
        have HO9 := hid (ownsMap_up Hown.out hU9)
        clear hU9 HP r0 r1
        obtain ⟨c0, c1, c2⟩ := HG9.out
        go_wp2_with fail
        obtain ⟨K, hK⟩ : ∃ K : Nat, (Q / 1024 + 2).toNat = K := ⟨_, rfl⟩
        have HK : Hid (Q / 1024 + 2 = (K : Int)) := hid (by omega)
        clear hK c0 c1 c2
        go_loopw [14, 64] (fun vz vk wr2 => ∃ k : Nat, k ≤ K ∧ vz = .int .i64 (pw b (1024 * k) P) ∧ vk = .int .i64 k ∧ wr2.ownsMap Tryz.prog 3 (plainElem Tryz.prog 3) B 1024 (baby Nat P b x 1024) ∧ Up w wr2 ∧ GrpAt wr2 o P Q G) (fun _ vk _ => K + 1 - (intOf vk).toNat)
        case atStart => exact ⟨0, by omega, by rw [Nat.mul_zero, pw_zero, Int.emod_eq_of_lt (by omega) (by omega)], rfl, HO9.out, HU9.out, HG9.out⟩
        case round =>
          obtain ⟨k, hk, rfl, rfl, hown, hU, hG⟩ := hrel
          have HUr := hid hU
          have HGr := hid hG
          obtain ⟨c0, c1, c2⟩ := hG
          have z0 := pw_nonneg b (1024 * k) (show 0 < P by omega)
          have z1 := pw_lt b (1024 * k) (show 0 < P by omega)
          have HNx : Hid (pw b (1024 * k) P * pw b 1024 P % P = pw b (1024 * (k + 1)) P) := hid (by rw [← pw_add, show 1024 * k + 1024 = 1024 * (k + 1) by omega])
          have hh' : Maps.has (baby Nat P b x 1024) (.int .i64 (pw b (1024 * k) P)) = false := by
            cases h : Maps.has (baby Nat P b x 1024) (.int .i64 (pw b (1024 * k) P)) with
            | false => rfl
            | true =>
              obtain ⟨j, hj, hz, ha⟩ := baby_has 1024 _ h
              have hm := meets (by omega) (by omega) Hb.out Hx.out (k := k) (j := j) hz
              have r0 := Int.emod_nonneg ((k : Int) * 1024 - j) (show Q ≠ 0 by omega)
              have r1 := Int.emod_lt_of_pos ((k : Int) * 1024 - j) (show 0 < Q by omega)
              exact absurd hm (HU.out _ (by omega))
          have hkey : keyOf Tryz.prog 3 (.int .i64 (pw b (1024 * k) P)) = some (.int .i64 (pw b (1024 * k) P)) := keyOf_int_mk Tryz.underlying3 (wf_i64 (by omega) (by omega))
          have Hown := hid hown
          clear hU
          generalize pw b (1024 * k) P = z at *
          generalize baby Nat P b x 1024 = D at *
          have hK1 : K ≤ 1030 := by have := HK.out; omega
          have q0 := pw_nonneg b 1024 (show 0 < P by omega)
          have q1 := pw_lt b 1024 (show 0 < P by omega)
          by_cases hkK : k < K
          · have hlt : (k : Int) < Q / 1024 + 2 := by have := HK.out; omega
            go_wp2_with (at_lookup; refine wpList_lookup_own_ok_int _ rfl _ _ 149 rfl 3 3 .i64 keyedInt Tryz.underlying149 Tryz.underlying3 (zeroInt _) B 1024 _ rfl hown _ _ rfl hkey ?_; intro c hat hwc; clear hat hwc; rw [hh'])
            refine (Mul_ok z (pw b 1024 P) P _ z0 z1 q0 q1 g1).mono ?_
            rintro e w4 ⟨rfl, hU4⟩
            rw [HNx.out]
            have HU4 := hid (HUr.out.trans hU4)
            have HG4 := hid (HGr.out.up hU4)
            have HO4 := hid (ownsMap_up Hown.out hU4)
            clear hU4
            go_wp2_with fail
            go_roundw
            case rel => exact ⟨k + 1, by omega, rfl, by go_num, HO4.out, HU4.out, HG4.out⟩
            case measure => simp [intOf]; omega
          · have hge : ¬ ((k : Int) < Q / 1024 + 2) := by have := HK.out; omega
            go_wp2
            go_ret2
            exact ⟨rfl, HUr.out⟩
end Go.Proofs.YtoaomjdpiealfaaGreatDoor
namespace Go.Proofs.YtoaomjdpiealfaaGreatDoor
open Go.RowKit Go.Sp
set_option maxHeartbeats 1000000

theorem bez (a m : Nat) : ∃ x y : Int, (a : Int) * x + (m : Int) * y = (Nat.gcd a m : Int) := by
  induction a, m using Nat.gcd.induction with
  | H0 n => exact ⟨0, 1, by simp⟩
  | H1 a m ha ih =>
    obtain ⟨x, y, h⟩ := ih
    refine ⟨y - (m / a : Nat) * x, x, ?_⟩
    have e : Nat.gcd a m = Nat.gcd (m % a) a := Nat.gcd_rec a m
    rw [e, ← h]
    have e2 : ((m % a : Nat) : Int) = (m : Int) - (a : Int) * ((m / a : Nat) : Int) := by
      have := Nat.mod_add_div m a
      have h3 : ((m % a + a * (m / a) : Nat) : Int) = (m : Int) := by rw [this]
      rw [Int.natCast_add, Int.natCast_mul] at h3
      omega
    rw [e2, Int.mul_sub, Int.sub_mul, Int.mul_assoc]
    omega

/-- Modulo a prime, all but 0 have an inverse. -/
theorem hasInv {a Q : Int} (hQ : Prim Q.toNat) (h0 : 1 ≤ a) (h1 : a < Q) : HasInv a Q := by
  obtain ⟨n, rfl⟩ : ∃ n : Nat, a = n := ⟨a.toNat, by omega⟩
  obtain ⟨q, rfl⟩ : ∃ q : Nat, Q = q := ⟨Q.toNat, by omega⟩
  rw [Int.toNat_natCast] at hQ
  obtain ⟨x, y, h⟩ := bez n q
  have hg : Nat.gcd n q = 1 := by
    rcases hQ.div (Nat.gcd_dvd_right n q) with h | h
    · exact h
    · have := Nat.le_of_dvd (by omega) (Nat.gcd_dvd_left n q)
      omega
  rw [hg] at h
  refine ⟨x % q, Int.emod_nonneg _ (by omega), Int.emod_lt_of_pos _ (by omega), ?_⟩
  have e : (n : Int) * x = 1 + q * (-y) := by rw [Int.mul_neg]; omega
  rw [Int.mul_emod, Int.emod_emod, ← Int.mul_emod, e, Int.add_mul_emod_self_left]

theorem isP_prim {Q : Int} (h : isP Q = true) (h0 : 2 ≤ Q) (h1 : Q < 1048576) : Prim Q.toNat := by
  obtain ⟨q, rfl⟩ : ∃ q : Nat, Q = q := ⟨Q.toNat, by omega⟩
  rw [Int.toNat_natCast]
  exact ⟨by omega, fun r h2 h3 => small_prime h (by omega) h2 h3⟩

/-- The least exponent, if there is one. -/
def lgN (P Q b x : Int) : Option Nat := (List.range Q.toNat).find? fun e => pw b e P == x
def lgV (P Q b x : Int) : Int := match lgN P Q b x with | some n => n | none => -1
theorem lgN_some {P Q b x : Int} {n : Nat} (h : lgN P Q b x = some n) : n < Q.toNat ∧ pw b n P = x := by
  have h1 := List.mem_of_find?_eq_some h
  have h2 := List.find?_some h
  exact ⟨List.mem_range.1 h1, by simpa using h2⟩
theorem lgN_none {P Q b x : Int} (h : lgN P Q b x = none) : ∀ m : Nat, m < Q.toNat → pw b m P ≠ x := by
  intro m hm
  have := List.find?_eq_none.1 h m (List.mem_range.2 hm)
  simpa using this
theorem lgN_least {P Q b x : Int} {n : Nat} (hn : n < Q.toNat) (h1 : pw b n P = x) (h2 : ∀ j, j < n → pw b j P ≠ x) : lgN P Q b x = some n := by
  unfold lgN
  rw [List.find?_range_eq_some]
  exact ⟨by simpa using h1, List.mem_range.2 hn, fun j hj => by simpa using h2 j hj⟩
theorem lgN_miss {P Q b x : Int} (h : ∀ m : Nat, m < Q.toNat → pw b m P ≠ x) : lgN P Q b x = none := by
  unfold lgN
  rw [List.find?_eq_none]
  intro m hm
  simpa using h m (List.mem_range.1 hm)
end Go.Proofs.YtoaomjdpiealfaaGreatDoor
namespace Go.Sp
open Go.RowKit
theorem anyE_oneG {P : Program} {ops : Array Oper} {Q : Exit → Act → World → Prop} {S : World → Prop} {last : Nat} {i : Nat} {o : Oper} {n : Nat} {listed : Array Bool} {a : Act} {w : World} (ho : ops[i]? = some o) (hr : Region.ready .any ops listed = [i]) (hg : Region.wanted o (yielded ops a.tmps) = true)
    (h : ∀ K : Act → World → Prop, Hid (∀ b u, (i = last ∨ S u) → anyE P ops Q S last n (listed.setIfInBounds i true) b u → K b u) → o.wp P a w K Q) : anyE P ops Q S last (n + 1) listed a w := by
  refine ⟨fun h0 => (by rw [hr] at h0; cases h0), fun j hj => ?_⟩
  rw [hr] at hj
  obtain rfl : j = i := by simpa using hj
  unfold wpOp
  simp only [ho]
  rw [if_pos hg]
  exact .inl (h _ (hid fun b u hS k => ⟨hS, k⟩))
end Go.Sp
