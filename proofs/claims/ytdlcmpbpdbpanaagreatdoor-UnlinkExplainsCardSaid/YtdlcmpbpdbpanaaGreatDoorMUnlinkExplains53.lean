/- UnlinkExplains: the example of the chapter, and the walk. UnlinkExplains: the walk. -/
import Derived.Test.YtdlcmpbpdbpanaaGreatDoorMUnlinkExplains46
import Derived.Test.YtdlcmpbpdbpanaaGreatDoorMUnlinkExplains52
namespace Go.Proofs.YtdlcmpbpdbpanaaGreatDoor
open Go.RowKit Go.Sp
set_option maxHeartbeats 4000000
set_option maxRecDepth 20000

theorem message_ok (P Q G A B C u : Int) (w : World) (g1 : P < 2305843009213693952) (a0 : 0 ≤ A) (a1 : A < P) (b0 : 0 ≤ B) (b1 : B < P) (u0 : 0 ≤ u) (u1 : u ≤ 9223372036854775807) :
    Calls Tryz.prog 152 #[bas P Q G A B C, .int .i64 u] w fun e w' => e = .returned (.int .i64 (pwi P A u * B % P)) ∧ Up w w' := by
  have M1 := hid (fun w' => fPow_ok P Q G A u w' a0 a1 u0 u1 g1)
  obtain ⟨x0, x1⟩ := pwi_range (P := P) (a := A) (e := u) (by omega)
  generalize pwi P A u = X at *
  have M2 := hid (fun w' => fTimes_ok P Q G X B w' x0 x1 b0 b1 g1)
  generalize X * B % P = Y at *
  clear g1 a0 a1 b0 b1 u0 u1 x0 x1
  obtain ⟨o, ho⟩ : ∃ o, w.heap.size = o := ⟨_, rfl⟩
  have HO := hid ho
  obtain ⟨o1, ho1⟩ : ∃ o1, o + 1 = o1 := ⟨_, rfl⟩
  have HO1 := hid ho1
  clear ho ho1
  go_enter Tryz.func152, Tryz.ntmps152
  go_wp2_with fail
  have HA0 := hid ((nums_six (w := w) (t := 25) (x := P) (y := Q) (z := G) (a := A) (b := B) (c := C) HO.out).up ((Up.refl _).alloc (.cells #[.int .i64 P, .int .i64 Q, .int .i64 G] 125)))
  have HD0 : Hid (GrpAt ((w.alloc (.cells #[.int .i64 P, .int .i64 Q, .int .i64 G, .int .i64 A, .int .i64 B, .int .i64 C] 25)).alloc (.cells #[.int .i64 P, .int .i64 Q, .int .i64 G] 125)) o1 P Q G) := hid (nums_three (by have := HO.out; have := HO1.out; simp; omega))
  have HU0 := hid (((Up.refl w).alloc (.cells #[.int .i64 P, .int .i64 Q, .int .i64 G, .int .i64 A, .int .i64 B, .int .i64 C] 25)).alloc (.cells #[.int .i64 P, .int .i64 Q, .int .i64 G] 125))
  generalize (w.alloc (.cells #[.int .i64 P, .int .i64 Q, .int .i64 G, .int .i64 A, .int .i64 B, .int .i64 C] 25)).alloc (.cells #[.int .i64 P, .int .i64 Q, .int .i64 G] 125) = w0 at *
  rw [HO.out, HO1.out]
  obtain ⟨⟨lc0, lc1, lc2⟩, lc3, lc4, lc5⟩ := HA0.out
  obtain ⟨la0, la1, la2⟩ := HD0.out
  have flc0 := cellF lc0
  have flc1 := cellF lc1
  have flc2 := cellF lc2
  have flc3 := cellF lc3
  have flc4 := cellF lc4
  have flc5 := cellF lc5
  have fla0 := cellF la0
  have fla1 := cellF la1
  have fla2 := cellF la2
  clear lc0 lc1 lc2 lc3 lc4 lc5 la0 la1 la2
  refine wp_region_up (by kernel_rfl) (by kernel_rfl) ?_
  repeat (go_big_quiet_step ((first
    | (go_at_call 154; exact Calls.up_of (M1.out _))
    | (go_at_call 155; exact Calls.up_of (M2.out _)))))
  refine wpQuiet_nil ?_
  rintro _ ⟨p', rfl⟩
  go_wp2
  go_ret
  exact ⟨rfl, HU0.out.trans p'.up⟩

theorem spent_ok (P Q G A B C p leaf d r1 r2 : Int) (w : World) (hT : Tab w) (hg : bvB P Q G A B C = true) (hp : gnB P Q p = true) (hl : elB P Q leaf = true) (hd : exB Q d = true) (hr1 : exB Q r1 = true) (hr2 : exB Q r2 = true) (he : pwi P A r1 * pwi P B r2 % P = pwi P p d * leaf % P) :
    Calls Tryz.prog 150 #[bas P Q G A B C, .int .i64 p, .int .i64 leaf, .int .i64 d, .int .i64 r1, .int .i64 r2] w fun e w' => e = .returned (.int .i64 0) ∧ Up w w' := by
  obtain ⟨hg1, ha, hb, hc⟩ := bv_iff.1 hg
  have g := gv_iff.1 hg1
  have g1 := g.P61
  have g2 := g.P4
  have g3 := g.Q3
  have g4 := g.QP
  obtain ⟨a0, a1, _⟩ := el_iff.1 ha.2
  obtain ⟨b0, b1, _⟩ := el_iff.1 hb.2
  obtain ⟨p0, p1, _⟩ := el_iff.1 (gn_el hp)
  obtain ⟨l0, l1, _⟩ := el_iff.1 hl
  obtain ⟨d0, d1⟩ := exB_iff.1 hd
  obtain ⟨q0, q1⟩ := exB_iff.1 hr1
  obtain ⟨q2, q3⟩ := exB_iff.1 hr2
  have hp1 : (p == 1) = false := by
    simp only [gnB, Bool.and_eq_true, bne_iff_ne] at hp
    simpa using hp.1
  have M0 := hid (fun w' (hU : Up w w') => bValid_any P Q G A B C w' (by omega) (by omega) (hT.up hU))
  rw [hg] at M0
  have M1 := hid (fun w' (hU : Up w w') => Contains_any P Q G p w' (by omega) (by omega) (hT.up hU))
  rw [show conB P Q G p = true by rw [conB, hg1, gn_el hp]; rfl] at M1
  have M2 := hid (fun w' (hU : Up w w') => Contains_any P Q G leaf w' (by omega) (by omega) (hT.up hU))
  rw [show conB P Q G leaf = true by rw [conB, hg1, hl]; rfl] at M2
  have M3 := hid (fun w' => fScalar_any P Q G d w')
  have M4 := hid (fun w' => fScalar_any P Q G r1 w')
  have M5 := hid (fun w' => fScalar_any P Q G r2 w')
  rw [hd] at M3
  rw [hr1] at M4
  rw [hr2] at M5
  have N1 := hid (fun w' => fPow_ok P Q G A r1 w' (by omega) a1 q0 (by omega) g1)
  have N2 := hid (fun w' => fPow_ok P Q G B r2 w' (by omega) b1 q2 (by omega) g1)
  have N3 := hid (fun w' => fPow_ok P Q G p d w' (by omega) p1 d0 (by omega) g1)
  obtain ⟨x0, x1⟩ := pwi_range (P := P) (a := A) (e := r1) (by omega)
  obtain ⟨x2, x3⟩ := pwi_range (P := P) (a := B) (e := r2) (by omega)
  obtain ⟨x4, x5⟩ := pwi_range (P := P) (a := p) (e := d) (by omega)
  have N4 := hid (fun w' => fTimes_ok P Q G (pwi P A r1) (pwi P B r2) w' x0 x1 x2 x3 g1)
  have N5 := hid (fun w' => fTimes_ok P Q G (pwi P p d) leaf w' x4 x5 (by omega) l1 g1)
  rw [he] at N4
  generalize pwi P A r1 = X1 at *
  generalize pwi P B r2 = X2 at *
  generalize pwi P p d = X3 at *
  generalize X3 * leaf % P = X4 at *
  have hq : (X4 != X4) = false := by simp
  obtain ⟨o, ho⟩ : ∃ o, w.heap.size = o := ⟨_, rfl⟩
  have HO := hid ho
  clear hT hg hp hl hd hr1 hr2 he hg1 ha hb hc g g1 g2 g3 g4 a0 a1 b0 b1 p0 p1 l0 l1 d0 d1 q0 q1 q2 q3 x0 x1 x2 x3 x4 x5 ho
  go_enter Tryz.func150, Tryz.ntmps150
  go_wp2_with fail
  refine (M0.out _ ((Up.refl w).alloc _)).mono ?_
  rintro e w1 ⟨rfl, hU1⟩
  have HA1 := hid (((nums_six (w := w) (t := 25) HO.out)).up hU1)
  have HU1 := hid (((Up.refl w).alloc _).trans hU1)
  clear hU1
  rw [HO.out]
  obtain ⟨⟨lc0, lc1, lc2⟩, lc3, lc4, lc5⟩ := HA1.out
  have lo1 : o < w1.heap.size := cell_lt lc0
  obtain ⟨b0, hb0⟩ : ∃ b0, w1.heap.size = b0 := ⟨_, rfl⟩
  rw [hb0] at lo1
  go_wp2_with fail
  refine (M1.out _ (HU1.out.alloc _)).mono ?_
  rintro e w2 ⟨rfl, hU2⟩
  have HD2 := hid (((nums_three (w := w1) (t := 125) hb0)).up hU2)
  have hU2 := ((Up.refl w1).alloc _).trans hU2
  have HA2 := hid (HA1.out.up hU2)
  have HU2 := hid (HU1.out.trans hU2)
  clear hU2 HA1 HU1 lc0 lc1 lc2 lc3 lc4 lc5
  try rw [hb0]
  clear hb0 lo1
  obtain ⟨⟨lc0, lc1, lc2⟩, lc3, lc4, lc5⟩ := HA2.out
  obtain ⟨la0, la1, la2⟩ := HD2.out
  go_wp2_with fail
  refine (M2.out _ (HU2.out)).mono ?_
  rintro e w3 ⟨rfl, hU3⟩
  have HA3 := hid (HA2.out.up hU3)
  have HD3 := hid (HD2.out.up hU3)
  have HU3 := hid (HU2.out.trans hU3)
  clear hU3 HA2 HD2 HU2 lc0 lc1 lc2 lc3 lc4 lc5 la0 la1 la2
  obtain ⟨⟨lc0, lc1, lc2⟩, lc3, lc4, lc5⟩ := HA3.out
  obtain ⟨la0, la1, la2⟩ := HD3.out
  go_wp2_with fail
  refine (M3.out _).mono ?_
  rintro e w4 ⟨rfl, hU4⟩
  have HA4 := hid (HA3.out.up hU4)
  have HD4 := hid (HD3.out.up hU4)
  have HU4 := hid (HU3.out.trans hU4)
  clear hU4 HA3 HD3 HU3 lc0 lc1 lc2 lc3 lc4 lc5 la0 la1 la2
  obtain ⟨⟨lc0, lc1, lc2⟩, lc3, lc4, lc5⟩ := HA4.out
  obtain ⟨la0, la1, la2⟩ := HD4.out
  go_wp2_with fail
  refine (M4.out _).mono ?_
  rintro e w5 ⟨rfl, hU5⟩
  have HA5 := hid (HA4.out.up hU5)
  have HD5 := hid (HD4.out.up hU5)
  have HU5 := hid (HU4.out.trans hU5)
  clear hU5 HA4 HD4 HU4 lc0 lc1 lc2 lc3 lc4 lc5 la0 la1 la2
  obtain ⟨⟨lc0, lc1, lc2⟩, lc3, lc4, lc5⟩ := HA5.out
  obtain ⟨la0, la1, la2⟩ := HD5.out
  go_wp2_with fail
  refine (M5.out _).mono ?_
  rintro e w6 ⟨rfl, hU6⟩
  have HA6 := hid (HA5.out.up hU6)
  have HD6 := hid (HD5.out.up hU6)
  have HU6 := hid (HU5.out.trans hU6)
  clear hU6 HA5 HD5 HU5 lc0 lc1 lc2 lc3 lc4 lc5 la0 la1 la2
  obtain ⟨⟨lc0, lc1, lc2⟩, lc3, lc4, lc5⟩ := HA6.out
  obtain ⟨la0, la1, la2⟩ := HD6.out
  have flc0 := cellF lc0
  have flc1 := cellF lc1
  have flc2 := cellF lc2
  have flc3 := cellF lc3
  have flc4 := cellF lc4
  have flc5 := cellF lc5
  have fla0 := cellF la0
  have fla1 := cellF la1
  have fla2 := cellF la2
  clear lc0 lc1 lc2 lc3 lc4 lc5 la0 la1 la2
  go_wp2_with fail
  refine wp_region_up (by kernel_rfl) (by kernel_rfl) ?_
  repeat (go_big_quiet_step ((first
    | (go_at_call 154; first
      | ((with_reducible (show Calls _ _ #[_, .int .i64 A, _] _ _)); exact Calls.up_of (N1.out _))
      | ((with_reducible (show Calls _ _ #[_, .int .i64 B, _] _ _)); exact Calls.up_of (N2.out _))
      | ((with_reducible (show Calls _ _ #[_, .int .i64 p, _] _ _)); exact Calls.up_of (N3.out _)))
    | (go_at_call 155; first
      | ((with_reducible (show Calls _ _ #[_, .int .i64 X1, _] _ _)); exact Calls.up_of (N4.out _))
      | ((with_reducible (show Calls _ _ #[_, .int .i64 X3, _] _ _)); exact Calls.up_of (N5.out _))))))
  refine wpQuiet_nil ?_
  rintro _ ⟨p', rfl⟩
  go_wp2
  go_ret
  exact ⟨rfl, HU6.out.trans p'.up⟩

theorem small26 (w : World) : Calls Tryz.prog 83 #[] w fun e w' => e = .returned (bas 23 11 4 2 3 6) ∧ Up w w' := by
  go_enter Tryz.func83, Tryz.ntmps83
  go_wp2
  go_returns
  exact ⟨rfl, ((Up.refl w).alloc _)⟩

theorem Openings26 (w : World) (hT : Tab w) : Calls Tryz.prog 84 #[bas 23 11 4 2 3 6, .int .i64 12, .int .i64 18, .int .i64 3, .int .i64 10, .int .i64 6] w fun e w' => e = .returned (.tuple #[.int .i64 10, .int .i64 0]) ∧ Up w w' := by
  have M1 := hid (fun w' (hU : Up w w') => spent_ok 23 11 4 2 3 6 12 18 3 10 6 w' (hT.up hU) (by decide +kernel) (by decide +kernel) (by decide +kernel) (by decide +kernel) (by decide +kernel) (by decide +kernel) (by decide +kernel))
  clear hT
  go_enter Tryz.func84, Tryz.ntmps84
  go_wp2_with fail
  refine (M1.out _ ((Up.refl w).alloc _)).mono ?_
  rintro e w1 ⟨rfl, hU1⟩
  have HA1 := hid (((nums_six (w := w) (t := 25) rfl)).up hU1)
  have HU1 := hid (((Up.refl w).alloc _).trans hU1)
  clear hU1
  obtain ⟨⟨lc0, lc1, lc2⟩, lc3, lc4, lc5⟩ := HA1.out
  go_wp2
  go_ret2
  exact ⟨rfl, HU1.out⟩

theorem SecretsZero (w : World) (hT : Tab w) : Calls Tryz.prog 82 #[bas 23 11 4 2 3 6, .int .i64 12, .int .i64 18, .int .i64 3, .int .i64 10, .int .i64 6, .int .i64 3] w fun e w' => e = .returned (.tuple #[.int .i64 0, .int .i64 0, .int .i64 0, .int .i64 10]) ∧ Up w w' := by
  have M1 := hid (fun w' (hU : Up w w') => spent_ok 23 11 4 2 3 6 12 18 3 10 6 w' (hT.up hU) (by decide +kernel) (by decide +kernel) (by decide +kernel) (by decide +kernel) (by decide +kernel) (by decide +kernel) (by decide +kernel))
  have M2 := hid (fun w' => fScalar_any 23 11 4 3 w')
  rw [show exB 11 3 = true by decide +kernel] at M2
  have M3 := hid (fun w' => message_ok 23 11 4 2 3 6 3 w' (by omega) (by omega) (by omega) (by omega) (by omega) (by omega) (by omega))
  rw [show pwi 23 2 3 * 3 % 23 = 1 by decide +kernel] at M3
  clear hT
  go_enter Tryz.func82, Tryz.ntmps82
  go_wp2_with fail
  refine (M1.out _ ((Up.refl w).alloc _)).mono ?_
  rintro e w1 ⟨rfl, hU1⟩
  have HA1 := hid (((nums_six (w := w) (t := 25) rfl)).up hU1)
  have HU1 := hid (((Up.refl w).alloc _).trans hU1)
  clear hU1
  obtain ⟨⟨lc0, lc1, lc2⟩, lc3, lc4, lc5⟩ := HA1.out
  have lo1 : w.heap.size < w1.heap.size := cell_lt lc0
  obtain ⟨b0, hb0⟩ : ∃ b0, w1.heap.size = b0 := ⟨_, rfl⟩
  rw [hb0] at lo1
  go_wp2_with fail
  refine (M2.out _).mono ?_
  rintro e w2 ⟨rfl, hU2⟩
  have HD2 := hid (((nums_three (w := w1) (t := 125) hb0)).up hU2)
  have hU2 := ((Up.refl w1).alloc _).trans hU2
  have HA2 := hid (HA1.out.up hU2)
  have HU2 := hid (HU1.out.trans hU2)
  clear hU2 HA1 HU1 lc0 lc1 lc2 lc3 lc4 lc5
  try rw [hb0]
  clear hb0 lo1
  obtain ⟨⟨lc0, lc1, lc2⟩, lc3, lc4, lc5⟩ := HA2.out
  obtain ⟨la0, la1, la2⟩ := HD2.out
  go_wp2_with fail
  refine (M3.out _).mono ?_
  rintro e w3 ⟨rfl, hU3⟩
  have HA3 := hid (HA2.out.up hU3)
  have HD3 := hid (HD2.out.up hU3)
  have HU3 := hid (HU2.out.trans hU3)
  clear hU3 HA2 HD2 HU2 lc0 lc1 lc2 lc3 lc4 lc5 la0 la1 la2
  obtain ⟨⟨lc0, lc1, lc2⟩, lc3, lc4, lc5⟩ := HA3.out
  obtain ⟨la0, la1, la2⟩ := HD3.out
  go_wp2
  refine bodyPost_ret (results_tmp4 rfl _ _ _) rfl ?_
  exact ⟨rfl, HU3.out⟩

theorem SecretsAt (u M n ds x1 x2 t : Int) (w : World) (hT : Tab w) (hu : 0 ≤ u) (hu1 : u < 11) (hM : pwi 23 2 u * 3 % 23 = M) (hMe : elB 23 11 M = true) (hM1 : M ≠ 1) (hn0 : 0 ≤ n) (hn : n < 11) (hp : pw M n.toNat 23 = 12) (hds : 3 * n % 11 = ds) (ht : ds * u % 11 = t) (h1 : (10 - t) % 11 = x1) (h2 : (6 - ds) % 11 = x2) :
    Calls Tryz.prog 82 #[bas 23 11 4 2 3 6, .int .i64 12, .int .i64 18, .int .i64 3, .int .i64 10, .int .i64 6, .int .i64 u] w fun e w' => e = .returned (.tuple #[.int .i64 n, .int .i64 x1, .int .i64 x2, .int .i64 0]) ∧ Up w w' := by
  have M1 := hid (fun w' (hU : Up w w') => spent_ok 23 11 4 2 3 6 12 18 3 10 6 w' (hT.up hU) (by decide +kernel) (by decide +kernel) (by decide +kernel) (by decide +kernel) (by decide +kernel) (by decide +kernel) (by decide +kernel))
  have M2 := hid (fun w' => fScalar_any 23 11 4 u w')
  rw [show exB 11 u = true by rw [exB_iff]; omega] at M2
  have M3 := hid (fun w' => message_ok 23 11 4 2 3 6 u w' (by omega) (by omega) (by omega) (by omega) (by omega) hu (by omega))
  rw [hM] at M3
  have M4 := hid (fun w' (hU : Up w w') => Log_pow 23 11 4 M n.toNat w' (hT.up hU) (by decide +kernel) (by omega) hMe hM1 (by omega))
  rw [hp, show ((n.toNat : Nat) : Int) = n by omega] at M4
  have hM2 : (M == 1) = false := by simpa using hM1
  have M5 := hid (fun w' => fMul_ok 23 11 4 3 n w' (by omega) (by omega) hn0 hn (by omega))
  rw [hds] at M5
  have d0 : 0 ≤ ds := by rw [← hds]; exact Int.emod_nonneg _ (by omega)
  have d1 : ds < 11 := by rw [← hds]; exact Int.emod_lt_of_pos _ (by omega)
  have t0 : 0 ≤ t := by rw [← ht]; exact Int.emod_nonneg _ (by omega)
  have t1 : t < 11 := by rw [← ht]; exact Int.emod_lt_of_pos _ (by omega)
  have M6 := hid (fun w' => fMul_ok 23 11 4 ds u w' d0 d1 hu hu1 (by omega))
  rw [ht] at M6
  have M7 := hid (fun w' => fSub_ok 23 11 4 10 t w' (by omega) (by omega) t0 t1 (by omega))
  rw [h1] at M7
  have M8 := hid (fun w' => fSub_ok 23 11 4 6 ds w' (by omega) (by omega) d0 d1 (by omega))
  rw [h2] at M8
  clear hT hu hu1 hM hMe hM1 hn0 hn hp hds ht h1 h2 d0 d1 t0 t1
  go_enter Tryz.func82, Tryz.ntmps82
  go_wp2_with fail
  refine (M1.out _ ((Up.refl w).alloc _)).mono ?_
  rintro e w1 ⟨rfl, hU1⟩
  have HA1 := hid (((nums_six (w := w) (t := 25) rfl)).up hU1)
  have HU1 := hid (((Up.refl w).alloc _).trans hU1)
  clear hU1
  obtain ⟨⟨lc0, lc1, lc2⟩, lc3, lc4, lc5⟩ := HA1.out
  have lo1 : w.heap.size < w1.heap.size := cell_lt lc0
  obtain ⟨b0, hb0⟩ : ∃ b0, w1.heap.size = b0 := ⟨_, rfl⟩
  rw [hb0] at lo1
  go_wp2_with fail
  refine (M2.out _).mono ?_
  rintro e w2 ⟨rfl, hU2⟩
  have HD2 := hid (((nums_three (w := w1) (t := 125) hb0)).up hU2)
  have hU2 := ((Up.refl w1).alloc _).trans hU2
  have HA2 := hid (HA1.out.up hU2)
  have HU2 := hid (HU1.out.trans hU2)
  clear hU2 HA1 HU1 lc0 lc1 lc2 lc3 lc4 lc5
  try rw [hb0]
  clear hb0 lo1
  obtain ⟨⟨lc0, lc1, lc2⟩, lc3, lc4, lc5⟩ := HA2.out
  obtain ⟨la0, la1, la2⟩ := HD2.out
  go_wp2_with fail
  refine (M3.out _).mono ?_
  rintro e w3 ⟨rfl, hU3⟩
  have HA3 := hid (HA2.out.up hU3)
  have HD3 := hid (HD2.out.up hU3)
  have HU3 := hid (HU2.out.trans hU3)
  clear hU3 HA2 HD2 HU2 lc0 lc1 lc2 lc3 lc4 lc5 la0 la1 la2
  obtain ⟨⟨lc0, lc1, lc2⟩, lc3, lc4, lc5⟩ := HA3.out
  obtain ⟨la0, la1, la2⟩ := HD3.out
  go_wp2_with fail
  refine (M4.out _ (HU3.out)).mono ?_
  rintro e w4 ⟨rfl, hU4⟩
  have HA4 := hid (HA3.out.up hU4)
  have HD4 := hid (HD3.out.up hU4)
  have HU4 := hid (HU3.out.trans hU4)
  clear hU4 HA3 HD3 HU3 lc0 lc1 lc2 lc3 lc4 lc5 la0 la1 la2
  obtain ⟨⟨lc0, lc1, lc2⟩, lc3, lc4, lc5⟩ := HA4.out
  obtain ⟨la0, la1, la2⟩ := HD4.out
  go_wp2_with fail
  refine (M5.out _).mono ?_
  rintro e w5 ⟨rfl, hU5⟩
  have HA5 := hid (HA4.out.up hU5)
  have HD5 := hid (HD4.out.up hU5)
  have HU5 := hid (HU4.out.trans hU5)
  clear hU5 HA4 HD4 HU4 lc0 lc1 lc2 lc3 lc4 lc5 la0 la1 la2
  obtain ⟨⟨lc0, lc1, lc2⟩, lc3, lc4, lc5⟩ := HA5.out
  obtain ⟨la0, la1, la2⟩ := HD5.out
  have flc0 := cellF lc0
  have flc1 := cellF lc1
  have flc2 := cellF lc2
  have flc3 := cellF lc3
  have flc4 := cellF lc4
  have flc5 := cellF lc5
  have fla0 := cellF la0
  have fla1 := cellF la1
  have fla2 := cellF la2
  clear lc0 lc1 lc2 lc3 lc4 lc5 la0 la1 la2
  go_wp2_with fail
  refine wp_region_up (by kernel_rfl) (by kernel_rfl) ?_
  repeat (go_big_quiet_step ((first
    | (go_at_call 93; exact Calls.up_of (M6.out _))
    | (go_at_call 92; first
      | ((with_reducible (show Calls _ _ #[_, .int .i64 10, _] _ _)); exact Calls.up_of (M7.out _))
      | ((with_reducible (show Calls _ _ #[_, .int .i64 6, _] _ _)); exact Calls.up_of (M8.out _))))))
  refine wpQuiet_nil ?_
  rintro _ ⟨p', rfl⟩
  go_wp2
  refine bodyPost_ret (results_tmp4 rfl _ _ _) rfl ?_
  exact ⟨rfl, HU5.out.trans p'.up⟩

theorem awake26 (w : World) (hT : Tab w) : Calls Tryz.prog 20 #[] w fun e w' => e = .returned (.bool true) ∧ Up w w' := by
  have M1 := hid (fun w' (hU : Up w w') => SecretsAt 5 4 5 4 1 2 9 w' (hT.up hU) (by omega) (by omega) (by decide +kernel) (by decide +kernel) (by omega) (by omega) (by omega) (by decide +kernel) (by decide) (by decide) (by decide) (by decide))
  have M2 := hid (fun w' (hU : Up w w') => SecretsAt 1 6 6 7 3 10 7 w' (hT.up hU) (by omega) (by omega) (by decide +kernel) (by decide +kernel) (by omega) (by omega) (by omega) (by decide +kernel) (by decide) (by decide) (by decide) (by decide))
  have M3 := hid (fun w' (hU : Up w w') => SecretsZero w' (hT.up hU))
  have M4 := hid (fun w' (hU : Up w w') => Openings26 w' (hT.up hU))
  clear hT
  go_enter Tryz.func20, Tryz.ntmps20
  go_wp2_with fail
  refine (small26 _).mono ?_
  rintro e w1 ⟨rfl, hU1⟩
  have HU1 := hid ((Up.refl w).trans hU1)
  clear hU1
  go_wp2_with fail
  refine (M1.out _ (HU1.out)).mono ?_
  rintro e w2 ⟨rfl, hU2⟩
  have HU2 := hid (HU1.out.trans hU2)
  clear hU2 HU1
  go_wp2_with fail
  refine (small26 _).mono ?_
  rintro e w3 ⟨rfl, hU3⟩
  have HU3 := hid (HU2.out.trans hU3)
  clear hU3 HU2
  go_wp2_with fail
  refine (M2.out _ (HU3.out)).mono ?_
  rintro e w4 ⟨rfl, hU4⟩
  have HU4 := hid (HU3.out.trans hU4)
  clear hU4 HU3
  go_wp2_with fail
  refine (small26 _).mono ?_
  rintro e w5 ⟨rfl, hU5⟩
  have HU5 := hid (HU4.out.trans hU5)
  clear hU5 HU4
  go_wp2_with fail
  refine (M3.out _ (HU5.out)).mono ?_
  rintro e w6 ⟨rfl, hU6⟩
  have HU6 := hid (HU5.out.trans hU6)
  clear hU6 HU5
  go_wp2_with fail
  refine (small26 _).mono ?_
  rintro e w7 ⟨rfl, hU7⟩
  have HU7 := hid (HU6.out.trans hU7)
  clear hU7 HU6
  go_wp2_with fail
  refine (M4.out _ (HU7.out)).mono ?_
  rintro e w8 ⟨rfl, hU8⟩
  have HU8 := hid (HU7.out.trans hU8)
  clear hU8 HU7
  go_wp2
  go_ret
  exact ⟨rfl, HU8.out⟩
end Go.Proofs.YtdlcmpbpdbpanaaGreatDoor
namespace Go.Proofs.YtdlcmpbpdbpanaaGreatDoor
open Go.RowKit Go.Sp
set_option maxHeartbeats 4000000
set_option maxRecDepth 20000

theorem UnlinkExplains_walk (P Q G A B C k1 k2 k3 m z x y c r s u v p : Int) (root : Nat → Int) (sz sa sb sr : Int) (w : World) (hP : -9223372036854775808 ≤ P) (hQ : Q ≤ 9223372036854775807) (hT : Tab w) (hS : TabS w) (hR : Byt root) :
    Calls Tryz.prog 4 #[bas P Q G A B C, bkey k1 k2 k3, vw m z x y c r, .agg #[.int .i64 s, .int .i64 u, .int .i64 v], .int .i64 p, hashV root, sgn sz sa sb sr] w fun e w' => e = .returned (.bool true) ∧ Up w w' := by
  have HT := hid hT
  have M1 := hid (fun w' (_ : Up w w') => r26Fault_any P Q G A B C k1 k2 k3 m z x y c r p root sz sa sb sr w' hP hQ hR)
  have M2 := hid (fun w' (hU : Up w w') => Explains_any P Q G A B C k1 k2 k3 m z x y c r s u v p root sz sa sb sr w' hP hQ (hT.up hU) (hS.up hU) hR)
  have M3 := hid (fun (w' : World) g1 g2 g3 g4 g5 g6 m0 m1 z0 z1 a0 a1 b0 b1 c0 c1 r0 r1 p0 p1 => r26Fits_any P Q G A B C m z x y c r s u v p root sz sa sb sr w' hR g1 g2 g3 g4 g5 g6 m0 m1 z0 z1 a0 a1 b0 b1 c0 c1 r0 r1 p0 p1)
  have HF := hid (flt_ok (P := P) (Q := Q) (G := G) (A := A) (B := B) (C := C) (k1 := k1) (k2 := k2) (k3 := k3) (m := m) (z := z) (x := x) (y := y) (c := c) (r := r) (p := p) (root := root) (sz := sz) (sa := sa) (sb := sb) (sr := sr))
  generalize fltE (kvB P Q G A B C k1 k2 k3) (cvB P Q G A B C k1 k2 k3 m z x y c r) (verB P Q G A B C k1 k2 k3 p root sz sa sb sr) = E at *
  generalize fitB P Q G m z x y c r s u v p (coinC P Q G A B C p root sz sa sb) sz sa sb sr = T at *
  obtain ⟨cs, hcs⟩ : ∃ cs, arrK .u8 root 32 = cs := ⟨_, rfl⟩
  have HCz : Hid ((Tryz.prog.info? 31).map (·.size) = some cs.size) := hid (by rw [← hcs, arrK_size]; kernel_rfl)
  unfold hashV at M1 M2 M3 ⊢
  rw [hcs] at M1 M2 M3 ⊢
  obtain ⟨o, ho⟩ : ∃ o, w.heap.size = o := ⟨_, rfl⟩
  have HO := hid ho
  obtain ⟨o1, ho1⟩ : ∃ o1, o + 1 = o1 := ⟨_, rfl⟩
  have HO1 := hid ho1
  obtain ⟨o2, ho2⟩ : ∃ o2, o1 + 1 = o2 := ⟨_, rfl⟩
  have HO2 := hid ho2
  obtain ⟨o3, ho3⟩ : ∃ o3, o2 + 1 = o3 := ⟨_, rfl⟩
  have HO3 := hid ho3
  obtain ⟨o4, ho4⟩ : ∃ o4, o3 + 1 = o4 := ⟨_, rfl⟩
  have HO4 := hid ho4
  obtain ⟨o5, ho5⟩ : ∃ o5, o4 + 1 = o5 := ⟨_, rfl⟩
  have HO5 := hid ho5
  clear hT hS hR hcs ho ho1 ho2 ho3 ho4 ho5
  go_enter Tryz.func4, Tryz.ntmps4
  go_wp2_with fail
  refine (awake26 _ (HT.out.up (((((((Up.refl w).alloc _).alloc _).alloc _).alloc _).alloc _).alloc _))).mono ?_
  rintro e w1 ⟨rfl, hU1⟩
  have HA1 := hid (((nums_six (w := w) (t := 25) HO.out).up ((((((Up.refl _).alloc _).alloc _).alloc _).alloc _).alloc _)).up hU1)
  have HY1 := hid (((nums_three (r := o1) (t := 27) (by have := HO.out; have := HO1.out; have := HO2.out; have := HO3.out; have := HO4.out; have := HO5.out; simp; omega)).up (((((Up.refl _).alloc _).alloc _).alloc _).alloc _)).up hU1)
  have HV1 := hid (((nums_six (r := o2) (t := 29) (by have := HO.out; have := HO1.out; have := HO2.out; have := HO3.out; have := HO4.out; have := HO5.out; simp; omega)).up ((((Up.refl _).alloc _).alloc _).alloc _)).up hU1)
  have HF1 := hid (((nums_three (r := o3) (t := 39) (by have := HO.out; have := HO1.out; have := HO2.out; have := HO3.out; have := HO4.out; have := HO5.out; simp; omega)).up (((Up.refl _).alloc _).alloc _)).up hU1)
  have HC1 := hid (((Blk.new (g := o4) (t := 31) (by have := HO.out; have := HO1.out; have := HO2.out; have := HO3.out; have := HO4.out; have := HO5.out; simp; omega) rfl).up ((Up.refl _).alloc _)).up hU1)
  have HS1 := hid (((Blk.new (g := o5) (t := 33) (by have := HO.out; have := HO1.out; have := HO2.out; have := HO3.out; have := HO4.out; have := HO5.out; simp; omega) rfl)).up hU1)
  have HU1 := hid ((((((((Up.refl w).alloc _).alloc _).alloc _).alloc _).alloc _).alloc _).trans hU1)
  clear hU1
  rw [HO.out, HO1.out, HO2.out, HO3.out, HO4.out, HO5.out]
  obtain ⟨⟨lc0, lc1, lc2⟩, lc3, lc4, lc5⟩ := HA1.out
  obtain ⟨le0, le1, le2⟩ := HY1.out
  obtain ⟨⟨lb0, lb1, lb2⟩, lb3, lb4, lb5⟩ := HV1.out
  obtain ⟨lf0, lf1, lf2⟩ := HF1.out
  have ls0 := HS1.out.val (i := 0) rfl
  have ls1 := HS1.out.val (i := 1) rfl
  have ls2 := HS1.out.val (i := 2) rfl
  have ls3 := HS1.out.val (i := 3) rfl
  go_wp2_with (refine wpList_load_row rfl 31 _ rfl o4 rfl 31 cs (0, 0) _ HC1.out Tryz.underlying31 rfl HCz.out ?_)
  refine (M1.out _ (HU1.out)).mono ?_
  rintro e w2 ⟨rfl, hU2⟩
  have HA2 := hid (HA1.out.up hU2)
  have HY2 := hid (HY1.out.up hU2)
  have HV2 := hid (HV1.out.up hU2)
  have HF2 := hid (HF1.out.up hU2)
  have HC2 := hid (HC1.out.up hU2)
  have HS2 := hid (HS1.out.up hU2)
  have HU2 := hid (HU1.out.trans hU2)
  clear hU2 HA1 HY1 HV1 HF1 HC1 HS1 HU1 lc0 lc1 lc2 lc3 lc4 lc5 le0 le1 le2 lb0 lb1 lb2 lb3 lb4 lb5 lf0 lf1 lf2 ls0 ls1 ls2 ls3
  obtain ⟨⟨lc0, lc1, lc2⟩, lc3, lc4, lc5⟩ := HA2.out
  obtain ⟨le0, le1, le2⟩ := HY2.out
  obtain ⟨⟨lb0, lb1, lb2⟩, lb3, lb4, lb5⟩ := HV2.out
  obtain ⟨lf0, lf1, lf2⟩ := HF2.out
  have ls0 := HS2.out.val (i := 0) rfl
  have ls1 := HS2.out.val (i := 1) rfl
  have ls2 := HS2.out.val (i := 2) rfl
  have ls3 := HS2.out.val (i := 3) rfl
  by_cases hE : E = 0
  case neg =>
    have d : (E == 0) = false := by simpa using hE
    have d2 : (decide (E = 0) && T) = false := by simp [hE]
    rw [d2] at M2
    clear hE
    go_wp2_with (first | refine wpList_load_row rfl 31 _ rfl o4 rfl 31 cs (0, 0) _ HC2.out Tryz.underlying31 rfl HCz.out ?_ | refine wpList_load_rowG (by rfl) 31 _ rfl o4 rfl 31 cs (0, 0) _ HC2.out Tryz.underlying31 rfl HCz.out ?_)
    refine (M2.out _ (HU2.out)).mono ?_
    rintro e w3 ⟨rfl, hU3⟩
    have HA3 := hid (HA2.out.up hU3)
    have HY3 := hid (HY2.out.up hU3)
    have HV3 := hid (HV2.out.up hU3)
    have HF3 := hid (HF2.out.up hU3)
    have HC3 := hid (HC2.out.up hU3)
    have HS3 := hid (HS2.out.up hU3)
    have HU3 := hid (HU2.out.trans hU3)
    clear hU3 HA2 HY2 HV2 HF2 HC2 HS2 HU2 lc0 lc1 lc2 lc3 lc4 lc5 le0 le1 le2 lb0 lb1 lb2 lb3 lb4 lb5 lf0 lf1 lf2 ls0 ls1 ls2 ls3
    go_wp2
    go_ret
    exact ⟨rfl, HU3.out⟩
  obtain ⟨hbv, ⟨hm, hz, hx, hy, hc, hr⟩, hp, hsz, hsa, hsb, hsr⟩ := HF.out hE
  subst hE
  have g := gv_iff.1 (bv_iff.1 hbv).1
  have g1 := g.P61
  have g2 := g.P4
  have g3 := g.Q3
  have g4 := g.QP
  have g5 := g.G2
  have g6 := g.GP
  obtain ⟨a1, a2, _⟩ := el_iff.1 (gn_el hm)
  obtain ⟨a3, a4, _⟩ := el_iff.1 hz
  obtain ⟨a5, a6, _⟩ := el_iff.1 hx
  obtain ⟨a7, a8, _⟩ := el_iff.1 hy
  obtain ⟨a9, a10⟩ := nzB_iff.1 hc
  obtain ⟨a11, a12⟩ := exB_iff.1 hr
  obtain ⟨a13, a14, _⟩ := el_iff.1 (gn_el hp)
  have M4 := hid (fun w' => M3.out w' g1 (by omega) (by omega) (by omega) (by omega) g6 (by omega) a2 (by omega) a4 (by omega) a6 (by omega) a8 (by omega) a10 a11 a12 (by omega) a14)
  rw [show (decide ((0 : Int) = 0) && T) = T by simp] at M2
  have e1 : (T == T) = true := by simp
  clear hbv hm hz hx hy hc hr hp hsz hsa hsb hsr g g1 g2 g3 g4 g5 g6 a1 a2 a3 a4 a5 a6 a7 a8 a9 a10 a11 a12 a13 a14 HF M3
  go_wp2_with (first | refine wpList_load_row rfl 31 _ rfl o4 rfl 31 cs (0, 0) _ HC2.out Tryz.underlying31 rfl HCz.out ?_ | refine wpList_load_rowG (by rfl) 31 _ rfl o4 rfl 31 cs (0, 0) _ HC2.out Tryz.underlying31 rfl HCz.out ?_)
  refine (M4.out _).mono ?_
  rintro e w3 ⟨rfl, hU3⟩
  have HA3 := hid (HA2.out.up hU3)
  have HY3 := hid (HY2.out.up hU3)
  have HV3 := hid (HV2.out.up hU3)
  have HF3 := hid (HF2.out.up hU3)
  have HC3 := hid (HC2.out.up hU3)
  have HS3 := hid (HS2.out.up hU3)
  have HU3 := hid (HU2.out.trans hU3)
  clear hU3 HA2 HY2 HV2 HF2 HC2 HS2 HU2 lc0 lc1 lc2 lc3 lc4 lc5 le0 le1 le2 lb0 lb1 lb2 lb3 lb4 lb5 lf0 lf1 lf2 ls0 ls1 ls2 ls3
  obtain ⟨⟨lc0, lc1, lc2⟩, lc3, lc4, lc5⟩ := HA3.out
  obtain ⟨le0, le1, le2⟩ := HY3.out
  obtain ⟨⟨lb0, lb1, lb2⟩, lb3, lb4, lb5⟩ := HV3.out
  obtain ⟨lf0, lf1, lf2⟩ := HF3.out
  have ls0 := HS3.out.val (i := 0) rfl
  have ls1 := HS3.out.val (i := 1) rfl
  have ls2 := HS3.out.val (i := 2) rfl
  have ls3 := HS3.out.val (i := 3) rfl
  go_wp2_with (first | refine wpList_load_row rfl 31 _ rfl o4 rfl 31 cs (0, 0) _ HC3.out Tryz.underlying31 rfl HCz.out ?_ | refine wpList_load_rowG (by rfl) 31 _ rfl o4 rfl 31 cs (0, 0) _ HC3.out Tryz.underlying31 rfl HCz.out ?_)
  refine (M2.out _ (HU3.out)).mono ?_
  rintro e w4 ⟨rfl, hU4⟩
  have HA4 := hid (HA3.out.up hU4)
  have HY4 := hid (HY3.out.up hU4)
  have HV4 := hid (HV3.out.up hU4)
  have HF4 := hid (HF3.out.up hU4)
  have HC4 := hid (HC3.out.up hU4)
  have HS4 := hid (HS3.out.up hU4)
  have HU4 := hid (HU3.out.trans hU4)
  clear hU4 HA3 HY3 HV3 HF3 HC3 HS3 HU3 lc0 lc1 lc2 lc3 lc4 lc5 le0 le1 le2 lb0 lb1 lb2 lb3 lb4 lb5 lf0 lf1 lf2 ls0 ls1 ls2 ls3
  go_wp2
  go_ret
  exact ⟨rfl, HU4.out⟩
end Go.Proofs.YtdlcmpbpdbpanaaGreatDoor
