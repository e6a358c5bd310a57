/- slices.IsSorted of integers in order. Logarithms: what is refused, the base 1, small groups; slices.Contains. UnlinkExplains: the example of the chapter, and the walk. From a walk that returns true and leaves all that was there as it was, to a law's post; arguments opened. Arguments opened: slices of integers, rows of them, tables, bases. -/
import Derived.Test.YtdbhleinhpiohaaGreatDoorMB7
import Derived.Test.YtdbhleinhpiohaaGreatDoorMB1
import Derived.Test.YtdbhleinhpiohaaGreatDoorMB21
import Derived.Test.YtdbhleinhpiohaaGreatDoorMB19
import Derived.Test.YtdbhleinhpiohaaGreatDoorCards
import Derived.Test.YtdbhleinhpiohaaGreatDoorTie
import Derived.Test.YtdbhleinhpiohaaGreatDoorMB17
import Derived.BigQuiet
import Derived.IntWalk
import Derived.ProofKit
import Derived.OpenShut
import Derived.Carry
import Derived.Deep.DeepHandedRow
import Derived.Lib.LaidTab
import Derived.Lib.SmallJoins
import Derived.Stop.LaidErr
import Derived.Deep.Matrix
namespace Go.Proofs.YtdbhleinhpiohaaGreatDoor
open Go.RowKit Go.Sp
set_option maxHeartbeats 1000000
set_option maxRecDepth 20000

theorem sorted_at {xs : List Int} (h : xs.Pairwise (· ≤ ·)) {k : Nat} (hk : k + 1 < xs.length) : xs.getD k 0 ≤ xs.getD (k + 1) 0 := by
  have := List.pairwise_iff_getElem.1 h k (k + 1) (by omega) hk (by omega)
  simpa [hk, show k < xs.length by omega] using this

end Go.Proofs.YtdbhleinhpiohaaGreatDoor
namespace Go.Proofs.YtdbhleinhpiohaaGreatDoor
open Go.RowKit Go.Sp
set_option maxHeartbeats 1000000
set_option maxRecDepth 20000

theorem Log_bad (P Q G b x c : Int) (w : World) (hP : -9223372036854775808 ≤ P) (hQ : Q ≤ 9223372036854775807) (hT : Tab w) (hc : chkI P Q G [b, x] = c) (hc0 : (c != 0) = true) :
    Calls Tryz.prog 16 #[grp P Q G, .int .i64 b, .int .i64 x] w fun e w' => e = .returned (.tuple #[.int .i64 0, .int .i64 c]) ∧ Up w w' := by
  have HT := hid hT
  have HA := hid hc
  clear hT hc
  go_enter Tryz.func16, Tryz.ntmps16
  go_wp2_with fail
  refine (gcheck_any P Q G _ [b, x] _ hP hQ (HT.out.up (((Up.refl w).alloc _).alloc _)) (ints_two (by go_simp) (by go_simp))).mono ?_
  rintro e w1 ⟨rfl, hU1⟩
  rw [HA.out]
  go_wp2
  go_ret2
  exact ⟨rfl, (((Up.refl w).alloc _).alloc _).trans hU1⟩

theorem Log_one (P Q G : Int) (w : World) (hT : Tab w) (hg : gvB P Q G = true) (hQ : Q ≤ 1048576) :
    Calls Tryz.prog 16 #[grp P Q G, .int .i64 1, .int .i64 1] w fun e w' => e = .returned (.tuple #[.int .i64 0, .int .i64 0]) ∧ Up w w' := by
  have HT := hid hT
  have g := gv_iff.1 hg
  have g1 := g.P61
  have g2 := g.P4
  have g3 := g.Q3
  have h1 : elB P Q 1 = true := el_one (by omega)
  have HA := hid (chkI_ok (xs := [1, 1]) hg (by simp [h1]))
  have d2 : decide (Q > 1048576) = false := by simp; omega
  have d3 : decide (1048576 < Q) = false := by simp; omega
  clear hT hg h1 g
  go_enter Tryz.func16, Tryz.ntmps16
  go_wp2_with fail
  refine (gcheck_any P Q G _ [1, 1] _ (by omega) (by omega) (HT.out.up (((Up.refl w).alloc _).alloc _)) (ints_two (by go_simp) (by go_simp))).mono ?_
  rintro e w1 ⟨rfl, hU1⟩
  have HG := hid ((box_reads rfl ((Up.refl _).alloc _)).up hU1)
  obtain ⟨c0, c1, c2⟩ := HG.out
  rw [HA.out]
  go_wp2
  go_ret2
  exact ⟨rfl, (((Up.refl w).alloc _).alloc _).trans hU1⟩

theorem Log_pow (P Q G b : Int) (n : Nat) (w : World) (hT : Tab w) (hg : gvB P Q G = true) (hP : P < 1048577) (hb : elB P Q b = true) (hb1 : b ≠ 1) (hn : n < Q.toNat) :
    Calls Tryz.prog 16 #[grp P Q G, .int .i64 b, .int .i64 (pw b n P)] w fun e w' => e = .returned (.tuple #[.int .i64 n, .int .i64 0]) ∧ Up w w' := by
  have g := gv_iff.1 hg
  have g2 := g.P4
  have g3 := g.Q3
  have g4 := g.QP
  have hq := prim_of g.pQ (by omega)
  exact Log_ok P Q G b (pw b n P) n w hT hg (by omega) hb hb1 (el_pw (by omega) (by omega) hb n) hn rfl fun m hm h => pw_inj (by omega) hq hb hb1 hm hn h

/-- In a small group each element has a logarithm. -/
theorem log_there {P Q G b x : Int} (hg : gvB P Q G = true) (hP : P < 1048576) (hb : elB P Q b = true) (hb1 : b ≠ 1) (hx : elB P Q x = true) : ∃ n : Nat, n < Q.toNat ∧ x = pw b n P := by
  have g := gv_iff.1 hg
  have g4 := g.QP
  have hm := mem_pows (prim_of g.pP hP) (prim_of g.pQ (by omega)) hb hb1 hx
  obtain ⟨n, hn, rfl⟩ := List.mem_map.1 hm
  exact ⟨n, List.mem_range.1 hn, rfl⟩

theorem found_has {P Q x : Int} (h2 : 2 ≤ P) : (found P Q (P - 1).toNat).contains x = elB P Q x := by
  rw [Bool.eq_iff_iff, List.contains_iff_mem, mem_found]
  constructor
  · exact fun h => h.2.2
  · intro h
    have := el_range h
    exact ⟨by omega, by omega, h⟩

theorem chkI_one {P Q G x : Int} (hg : gvB P Q G = true) : chkI P Q G [x] = if elB P Q x = true then 0 else 2 := by
  simp [chkI, hg]
end Go.Proofs.YtdbhleinhpiohaaGreatDoor
namespace Go.Proofs.YtdbhleinhpiohaaGreatDoor
open Go.RowKit Go.Sp
set_option maxHeartbeats 4000000
set_option maxRecDepth 20000

theorem message_ok (P Q G A B C u : Int) (w : World) (g1 : P < 2305843009213693952) (a0 : 0 ≤ A) (a1 : A < P) (b0 : 0 ≤ B) (b1 : B < P) (u0 : 0 ≤ u) (u1 : u ≤ 9223372036854775807) :
    Calls Tryz.prog 34 #[bas P Q G A B C, .int .i64 u] w fun e w' => e = .returned (.int .i64 (pwi P A u * B % P)) ∧ Up w w' := by
  have M1 := hid (fun w' => fPow_ok P Q G A u w' a0 a1 u0 u1 g1)
  obtain ⟨x0, x1⟩ := pwi_range (P := P) (a := A) (e := u) (by omega)
  generalize pwi P A u = X at *
  have M2 := hid (fun w' => fTimes_ok P Q G X B w' x0 x1 b0 b1 g1)
  generalize X * B % P = Y at *
  clear g1 a0 a1 b0 b1 u0 u1 x0 x1
  obtain ⟨o, ho⟩ : ∃ o, w.heap.size = o := ⟨_, rfl⟩
  have HO := hid ho
  obtain ⟨o1, ho1⟩ : ∃ o1, o + 1 = o1 := ⟨_, rfl⟩
  have HO1 := hid ho1
  clear ho ho1
  go_enter Tryz.func34, Tryz.ntmps34
  go_wp2_with fail
  have HA0 := hid ((nums_six (w := w) (t := 25) (x := P) (y := Q) (z := G) (a := A) (b := B) (c := C) HO.out).up ((Up.refl _).alloc (.cells #[.int .i64 P, .int .i64 Q, .int .i64 G] 54)))
  have HD0 : Hid (GrpAt ((w.alloc (.cells #[.int .i64 P, .int .i64 Q, .int .i64 G, .int .i64 A, .int .i64 B, .int .i64 C] 25)).alloc (.cells #[.int .i64 P, .int .i64 Q, .int .i64 G] 54)) o1 P Q G) := hid (nums_three (by have := HO.out; have := HO1.out; simp; omega))
  have HU0 := hid (((Up.refl w).alloc (.cells #[.int .i64 P, .int .i64 Q, .int .i64 G, .int .i64 A, .int .i64 B, .int .i64 C] 25)).alloc (.cells #[.int .i64 P, .int .i64 Q, .int .i64 G] 54))
  generalize (w.alloc (.cells #[.int .i64 P, .int .i64 Q, .int .i64 G, .int .i64 A, .int .i64 B, .int .i64 C] 25)).alloc (.cells #[.int .i64 P, .int .i64 Q, .int .i64 G] 54) = w0 at *
  rw [HO.out, HO1.out]
  obtain ⟨⟨lc0, lc1, lc2⟩, lc3, lc4, lc5⟩ := HA0.out
  obtain ⟨la0, la1, la2⟩ := HD0.out
  have flc0 := cellF lc0
  have flc1 := cellF lc1
  have flc2 := cellF lc2
  have flc3 := cellF lc3
  have flc4 := cellF lc4
  have flc5 := cellF lc5
  have fla0 := cellF la0
  have fla1 := cellF la1
  have fla2 := cellF la2
  clear lc0 lc1 lc2 lc3 lc4 lc5 la0 la1 la2
  refine wp_region_up (by kernel_rfl) (by kernel_rfl) ?_
  repeat (go_big_quiet_step ((first
    | (go_at_call 51; exact Calls.up_of (M1.out _))
    | (go_at_call 52; exact Calls.up_of (M2.out _)))))
  refine wpQuiet_nil ?_
  rintro _ ⟨p', rfl⟩
  go_wp2
  go_ret
  exact ⟨rfl, HU0.out.trans p'.up⟩

theorem spent_ok (P Q G A B C p leaf d r1 r2 : Int) (w : World) (hT : Tab w) (hg : bvB P Q G A B C = true) (hp : gnB P Q p = true) (hl : elB P Q leaf = true) (hd : exB Q d = true) (hr1 : exB Q r1 = true) (hr2 : exB Q r2 = true) (he : pwi P A r1 * pwi P B r2 % P = pwi P p d * leaf % P) :
    Calls Tryz.prog 32 #[bas P Q G A B C, .int .i64 p, .int .i64 leaf, .int .i64 d, .int .i64 r1, .int .i64 r2] w fun e w' => e = .returned (.int .i64 0) ∧ Up w w' := by
  obtain ⟨hg1, ha, hb, hc⟩ := bv_iff.1 hg
  have g := gv_iff.1 hg1
  have g1 := g.P61
  have g2 := g.P4
  have g3 := g.Q3
  have g4 := g.QP
  obtain ⟨a0, a1, _⟩ := el_iff.1 ha.2
  obtain ⟨b0, b1, _⟩ := el_iff.1 hb.2
  obtain ⟨p0, p1, _⟩ := el_iff.1 (gn_el hp)
  obtain ⟨l0, l1, _⟩ := el_iff.1 hl
  obtain ⟨d0, d1⟩ := exB_iff.1 hd
  obtain ⟨q0, q1⟩ := exB_iff.1 hr1
  obtain ⟨q2, q3⟩ := exB_iff.1 hr2
  have hp1 : (p == 1) = false := by
    simp only [gnB, Bool.and_eq_true, bne_iff_ne] at hp
    simpa using hp.1
  have M0 := hid (fun w' (hU : Up w w') => bValid_any P Q G A B C w' (by omega) (by omega) (hT.up hU))
  rw [hg] at M0
  have M1 := hid (fun w' (hU : Up w w') => Contains_any P Q G p w' (by omega) (by omega) (hT.up hU))
  rw [show conB P Q G p = true by rw [conB, hg1, gn_el hp]; rfl] at M1
  have M2 := hid (fun w' (hU : Up w w') => Contains_any P Q G leaf w' (by omega) (by omega) (hT.up hU))
  rw [show conB P Q G leaf = true by rw [conB, hg1, hl]; rfl] at M2
  have M3 := hid (fun w' => fScalar_any P Q G d w')
  have M4 := hid (fun w' => fScalar_any P Q G r1 w')
  have M5 := hid (fun w' => fScalar_any P Q G r2 w')
  rw [hd] at M3
  rw [hr1] at M4
  rw [hr2] at M5
  have N1 := hid (fun w' => fPow_ok P Q G A r1 w' (by omega) a1 q0 (by omega) g1)
  have N2 := hid (fun w' => fPow_ok P Q G B r2 w' (by omega) b1 q2 (by omega) g1)
  have N3 := hid (fun w' => fPow_ok P Q G p d w' (by omega) p1 d0 (by omega) g1)
  obtain ⟨x0, x1⟩ := pwi_range (P := P) (a := A) (e := r1) (by omega)
  obtain ⟨x2, x3⟩ := pwi_range (P := P) (a := B) (e := r2) (by omega)
  obtain ⟨x4, x5⟩ := pwi_range (P := P) (a := p) (e := d) (by omega)
  have N4 := hid (fun w' => fTimes_ok P Q G (pwi P A r1) (pwi P B r2) w' x0 x1 x2 x3 g1)
  have N5 := hid (fun w' => fTimes_ok P Q G (pwi P p d) leaf w' x4 x5 (by omega) l1 g1)
  rw [he] at N4
  generalize pwi P A r1 = X1 at *
  generalize pwi P B r2 = X2 at *
  generalize pwi P p d = X3 at *
  generalize X3 * leaf % P = X4 at *
  have hq : (X4 != X4) = false := by simp
  obtain ⟨o, ho⟩ : ∃ o, w.heap.size = o := ⟨_, rfl⟩
  have HO := hid ho
  clear hT hg hp hl hd hr1 hr2 he hg1 ha hb hc g g1 g2 g3 g4 a0 a1 b0 b1 p0 p1 l0 l1 d0 d1 q0 q1 q2 q3 x0 x1 x2 x3 x4 x5 ho
  go_enter Tryz.func32, Tryz.ntmps32
  go_wp2_with fail
  refine (M0.out _ ((Up.refl w).alloc _)).mono ?_
  rintro e w1 ⟨rfl, hU1⟩
  have HA1 := hid (((nums_six (w := w) (t := 25) HO.out)).up hU1)
  have HU1 := hid (((Up.refl w).alloc _).trans hU1)
  clear hU1
  rw [HO.out]
  obtain ⟨⟨lc0, lc1, lc2⟩, lc3, lc4, lc5⟩ := HA1.out
  have lo1 : o < w1.heap.size := cell_lt lc0
  obtain ⟨b0, hb0⟩ : ∃ b0, w1.heap.size = b0 := ⟨_, rfl⟩
  rw [hb0] at lo1
  go_wp2_with fail
  refine (M1.out _ (HU1.out.alloc _)).mono ?_
  rintro e w2 ⟨rfl, hU2⟩
  have HD2 := hid (((nums_three (w := w1) (t := 54) hb0)).up hU2)
  have hU2 := ((Up.refl w1).alloc _).trans hU2
  have HA2 := hid (HA1.out.up hU2)
  have HU2 := hid (HU1.out.trans hU2)
  clear hU2 HA1 HU1 lc0 lc1 lc2 lc3 lc4 lc5
  try rw [hb0]
  clear hb0 lo1
  obtain ⟨⟨lc0, lc1, lc2⟩, lc3, lc4, lc5⟩ := HA2.out
  obtain ⟨la0, la1, la2⟩ := HD2.out
  go_wp2_with fail
  refine (M2.out _ (HU2.out)).mono ?_
  rintro e w3 ⟨rfl, hU3⟩
  have HA3 := hid (HA2.out.up hU3)
  have HD3 := hid (HD2.out.up hU3)
  have HU3 := hid (HU2.out.trans hU3)
  clear hU3 HA2 HD2 HU2 lc0 lc1 lc2 lc3 lc4 lc5 la0 la1 la2
  obtain ⟨⟨lc0, lc1, lc2⟩, lc3, lc4, lc5⟩ := HA3.out
  obtain ⟨la0, la1, la2⟩ := HD3.out
  go_wp2_with fail
  refine (M3.out _).mono ?_
  rintro e w4 ⟨rfl, hU4⟩
  have HA4 := hid (HA3.out.up hU4)
  have HD4 := hid (HD3.out.up hU4)
  have HU4 := hid (HU3.out.trans hU4)
  clear hU4 HA3 HD3 HU3 lc0 lc1 lc2 lc3 lc4 lc5 la0 la1 la2
  obtain ⟨⟨lc0, lc1, lc2⟩, lc3, lc4, lc5⟩ := HA4.out
  obtain ⟨la0, la1, la2⟩ := HD4.out
  go_wp2_with fail
  refine (M4.out _).mono ?_
  rintro e w5 ⟨rfl, hU5⟩
  have HA5 := hid (HA4.out.up hU5)
  have HD5 := hid (HD4.out.up hU5)
  have HU5 := hid (HU4.out.trans hU5)
  clear hU5 HA4 HD4 HU4 lc0 lc1 lc2 lc3 lc4 lc5 la0 la1 la2
  obtain ⟨⟨lc0, lc1, lc2⟩, lc3, lc4, lc5⟩ := HA5.out
  obtain ⟨la0, la1, la2⟩ := HD5.out
  go_wp2_with fail
  refine (M5.out _).mono ?_
  rintro e w6 ⟨rfl, hU6⟩
  have HA6 := hid (HA5.out.up hU6)
  have HD6 := hid (HD5.out.up hU6)
  have HU6 := hid (HU5.out.trans hU6)
  clear hU6 HA5 HD5 HU5 lc0 lc1 lc2 lc3 lc4 lc5 la0 la1 la2
  obtain ⟨⟨lc0, lc1, lc2⟩, lc3, lc4, lc5⟩ := HA6.out
  obtain ⟨la0, la1, la2⟩ := HD6.out
  have flc0 := cellF lc0
  have flc1 := cellF lc1
  have flc2 := cellF lc2
  have flc3 := cellF lc3
  have flc4 := cellF lc4
  have flc5 := cellF lc5
  have fla0 := cellF la0
  have fla1 := cellF la1
  have fla2 := cellF la2
  clear lc0 lc1 lc2 lc3 lc4 lc5 la0 la1 la2
  go_wp2_with fail
  refine wp_region_up (by kernel_rfl) (by kernel_rfl) ?_
  repeat (go_big_quiet_step ((first
    | (go_at_call 51; first
      | ((with_reducible (show Calls _ _ #[_, .int .i64 A, _] _ _)); exact Calls.up_of (N1.out _))
      | ((with_reducible (show Calls _ _ #[_, .int .i64 B, _] _ _)); exact Calls.up_of (N2.out _))
      | ((with_reducible (show Calls _ _ #[_, .int .i64 p, _] _ _)); exact Calls.up_of (N3.out _)))
    | (go_at_call 52; first
      | ((with_reducible (show Calls _ _ #[_, .int .i64 X1, _] _ _)); exact Calls.up_of (N4.out _))
      | ((with_reducible (show Calls _ _ #[_, .int .i64 X3, _] _ _)); exact Calls.up_of (N5.out _))))))
  refine wpQuiet_nil ?_
  rintro _ ⟨p', rfl⟩
  go_wp2
  go_ret
  exact ⟨rfl, HU6.out.trans p'.up⟩

theorem small26 (w : World) : Calls Tryz.prog 12 #[] w fun e w' => e = .returned (bas 23 11 4 2 3 6) ∧ Up w w' := by
  go_enter Tryz.func12, Tryz.ntmps12
  go_wp2
  go_returns
  exact ⟨rfl, ((Up.refl w).alloc _)⟩

theorem Openings26 (w : World) (hT : Tab w) : Calls Tryz.prog 13 #[bas 23 11 4 2 3 6, .int .i64 12, .int .i64 18, .int .i64 3, .int .i64 10, .int .i64 6] w fun e w' => e = .returned (.tuple #[.int .i64 10, .int .i64 0]) ∧ Up w w' := by
  have M1 := hid (fun w' (hU : Up w w') => spent_ok 23 11 4 2 3 6 12 18 3 10 6 w' (hT.up hU) (by decide +kernel) (by decide +kernel) (by decide +kernel) (by decide +kernel) (by decide +kernel) (by decide +kernel) (by decide +kernel))
  clear hT
  go_enter Tryz.func13, Tryz.ntmps13
  go_wp2_with fail
  refine (M1.out _ ((Up.refl w).alloc _)).mono ?_
  rintro e w1 ⟨rfl, hU1⟩
  have HA1 := hid (((nums_six (w := w) (t := 25) rfl)).up hU1)
  have HU1 := hid (((Up.refl w).alloc _).trans hU1)
  clear hU1
  obtain ⟨⟨lc0, lc1, lc2⟩, lc3, lc4, lc5⟩ := HA1.out
  go_wp2
  go_ret2
  exact ⟨rfl, HU1.out⟩

theorem SecretsZero (w : World) (hT : Tab w) : Calls Tryz.prog 11 #[bas 23 11 4 2 3 6, .int .i64 12, .int .i64 18, .int .i64 3, .int .i64 10, .int .i64 6, .int .i64 3] w fun e w' => e = .returned (.tuple #[.int .i64 0, .int .i64 0, .int .i64 0, .int .i64 10]) ∧ Up w w' := by
  have M1 := hid (fun w' (hU : Up w w') => spent_ok 23 11 4 2 3 6 12 18 3 10 6 w' (hT.up hU) (by decide +kernel) (by decide +kernel) (by decide +kernel) (by decide +kernel) (by decide +kernel) (by decide +kernel) (by decide +kernel))
  have M2 := hid (fun w' => fScalar_any 23 11 4 3 w')
  rw [show exB 11 3 = true by decide +kernel] at M2
  have M3 := hid (fun w' => message_ok 23 11 4 2 3 6 3 w' (by omega) (by omega) (by omega) (by omega) (by omega) (by omega) (by omega))
  rw [show pwi 23 2 3 * 3 % 23 = 1 by decide +kernel] at M3
  clear hT
  go_enter Tryz.func11, Tryz.ntmps11
  go_wp2_with fail
  refine (M1.out _ ((Up.refl w).alloc _)).mono ?_
  rintro e w1 ⟨rfl, hU1⟩
  have HA1 := hid (((nums_six (w := w) (t := 25) rfl)).up hU1)
  have HU1 := hid (((Up.refl w).alloc _).trans hU1)
  clear hU1
  obtain ⟨⟨lc0, lc1, lc2⟩, lc3, lc4, lc5⟩ := HA1.out
  have lo1 : w.heap.size < w1.heap.size := cell_lt lc0
  obtain ⟨b0, hb0⟩ : ∃ b0, w1.heap.size = b0 := ⟨_, rfl⟩
  rw [hb0] at lo1
  go_wp2_with fail
  refine (M2.out _).mono ?_
  rintro e w2 ⟨rfl, hU2⟩
  have HD2 := hid (((nums_three (w := w1) (t := 54) hb0)).up hU2)
  have hU2 := ((Up.refl w1).alloc _).trans hU2
  have HA2 := hid (HA1.out.up hU2)
  have HU2 := hid (HU1.out.trans hU2)
  clear hU2 HA1 HU1 lc0 lc1 lc2 lc3 lc4 lc5
  try rw [hb0]
  clear hb0 lo1
  obtain ⟨⟨lc0, lc1, lc2⟩, lc3, lc4, lc5⟩ := HA2.out
  obtain ⟨la0, la1, la2⟩ := HD2.out
  go_wp2_with fail
  refine (M3.out _).mono ?_
  rintro e w3 ⟨rfl, hU3⟩
  have HA3 := hid (HA2.out.up hU3)
  have HD3 := hid (HD2.out.up hU3)
  have HU3 := hid (HU2.out.trans hU3)
  clear hU3 HA2 HD2 HU2 lc0 lc1 lc2 lc3 lc4 lc5 la0 la1 la2
  obtain ⟨⟨lc0, lc1, lc2⟩, lc3, lc4, lc5⟩ := HA3.out
  obtain ⟨la0, la1, la2⟩ := HD3.out
  go_wp2
  refine bodyPost_ret (results_tmp4 rfl _ _ _) rfl ?_
  exact ⟨rfl, HU3.out⟩

theorem SecretsAt (u M n ds x1 x2 t : Int) (w : World) (hT : Tab w) (hu : 0 ≤ u) (hu1 : u < 11) (hM : pwi 23 2 u * 3 % 23 = M) (hMe : elB 23 11 M = true) (hM1 : M ≠ 1) (hn0 : 0 ≤ n) (hn : n < 11) (hp : pw M n.toNat 23 = 12) (hds : 3 * n % 11 = ds) (ht : ds * u % 11 = t) (h1 : (10 - t) % 11 = x1) (h2 : (6 - ds) % 11 = x2) :
    Calls Tryz.prog 11 #[bas 23 11 4 2 3 6, .int .i64 12, .int .i64 18, .int .i64 3, .int .i64 10, .int .i64 6, .int .i64 u] w fun e w' => e = .returned (.tuple #[.int .i64 n, .int .i64 x1, .int .i64 x2, .int .i64 0]) ∧ Up w w' := by
  have M1 := hid (fun w' (hU : Up w w') => spent_ok 23 11 4 2 3 6 12 18 3 10 6 w' (hT.up hU) (by decide +kernel) (by decide +kernel) (by decide +kernel) (by decide +kernel) (by decide +kernel) (by decide +kernel) (by decide +kernel))
  have M2 := hid (fun w' => fScalar_any 23 11 4 u w')
  rw [show exB 11 u = true by rw [exB_iff]; omega] at M2
  have M3 := hid (fun w' => message_ok 23 11 4 2 3 6 u w' (by omega) (by omega) (by omega) (by omega) (by omega) hu (by omega))
  rw [hM] at M3
  have M4 := hid (fun w' (hU : Up w w') => Log_pow 23 11 4 M n.toNat w' (hT.up hU) (by decide +kernel) (by omega) hMe hM1 (by omega))
  rw [hp, show ((n.toNat : Nat) : Int) = n by omega] at M4
  have hM2 : (M == 1) = false := by simpa using hM1
  have M5 := hid (fun w' => fMul_ok 23 11 4 3 n w' (by omega) (by omega) hn0 hn (by omega))
  rw [hds] at M5
  have d0 : 0 ≤ ds := by rw [← hds]; exact Int.emod_nonneg _ (by omega)
  have d1 : ds < 11 := by rw [← hds]; exact Int.emod_lt_of_pos _ (by omega)
  have t0 : 0 ≤ t := by rw [← ht]; exact Int.emod_nonneg _ (by omega)
  have t1 : t < 11 := by rw [← ht]; exact Int.emod_lt_of_pos _ (by omega)
  have M6 := hid (fun w' => fMul_ok 23 11 4 ds u w' d0 d1 hu hu1 (by omega))
  rw [ht] at M6
  have M7 := hid (fun w' => fSub_ok 23 11 4 10 t w' (by omega) (by omega) t0 t1 (by omega))
  rw [h1] at M7
  have M8 := hid (fun w' => fSub_ok 23 11 4 6 ds w' (by omega) (by omega) d0 d1 (by omega))
  rw [h2] at M8
  clear hT hu hu1 hM hMe hM1 hn0 hn hp hds ht h1 h2 d0 d1 t0 t1
  go_enter Tryz.func11, Tryz.ntmps11
  go_wp2_with fail
  refine (M1.out _ ((Up.refl w).alloc _)).mono ?_
  rintro e w1 ⟨rfl, hU1⟩
  have HA1 := hid (((nums_six (w := w) (t := 25) rfl)).up hU1)
  have HU1 := hid (((Up.refl w).alloc _).trans hU1)
  clear hU1
  obtain ⟨⟨lc0, lc1, lc2⟩, lc3, lc4, lc5⟩ := HA1.out
  have lo1 : w.heap.size < w1.heap.size := cell_lt lc0
  obtain ⟨b0, hb0⟩ : ∃ b0, w1.heap.size = b0 := ⟨_, rfl⟩
  rw [hb0] at lo1
  go_wp2_with fail
  refine (M2.out _).mono ?_
  rintro e w2 ⟨rfl, hU2⟩
  have HD2 := hid (((nums_three (w := w1) (t := 54) hb0)).up hU2)
  have hU2 := ((Up.refl w1).alloc _).trans hU2
  have HA2 := hid (HA1.out.up hU2)
  have HU2 := hid (HU1.out.trans hU2)
  clear hU2 HA1 HU1 lc0 lc1 lc2 lc3 lc4 lc5
  try rw [hb0]
  clear hb0 lo1
  obtain ⟨⟨lc0, lc1, lc2⟩, lc3, lc4, lc5⟩ := HA2.out
  obtain ⟨la0, la1, la2⟩ := HD2.out
  go_wp2_with fail
  refine (M3.out _).mono ?_
  rintro e w3 ⟨rfl, hU3⟩
  have HA3 := hid (HA2.out.up hU3)
  have HD3 := hid (HD2.out.up hU3)
  have HU3 := hid (HU2.out.trans hU3)
  clear hU3 HA2 HD2 HU2 lc0 lc1 lc2 lc3 lc4 lc5 la0 la1 la2
  obtain ⟨⟨lc0, lc1, lc2⟩, lc3, lc4, lc5⟩ := HA3.out
  obtain ⟨la0, la1, la2⟩ := HD3.out
  go_wp2_with fail
  refine (M4.out _ (HU3.out)).mono ?_
  rintro e w4 ⟨rfl, hU4⟩
  have HA4 := hid (HA3.out.up hU4)
  have HD4 := hid (HD3.out.up hU4)
  have HU4 := hid (HU3.out.trans hU4)
  clear hU4 HA3 HD3 HU3 lc0 lc1 lc2 lc3 lc4 lc5 la0 la1 la2
  obtain ⟨⟨lc0, lc1, lc2⟩, lc3, lc4, lc5⟩ := HA4.out
  obtain ⟨la0, la1, la2⟩ := HD4.out
  go_wp2_with fail
  refine (M5.out _).mono ?_
  rintro e w5 ⟨rfl, hU5⟩
  have HA5 := hid (HA4.out.up hU5)
  have HD5 := hid (HD4.out.up hU5)
  have HU5 := hid (HU4.out.trans hU5)
  clear hU5 HA4 HD4 HU4 lc0 lc1 lc2 lc3 lc4 lc5 la0 la1 la2
  obtain ⟨⟨lc0, lc1, lc2⟩, lc3, lc4, lc5⟩ := HA5.out
  obtain ⟨la0, la1, la2⟩ := HD5.out
  have flc0 := cellF lc0
  have flc1 := cellF lc1
  have flc2 := cellF lc2
  have flc3 := cellF lc3
  have flc4 := cellF lc4
  have flc5 := cellF lc5
  have fla0 := cellF la0
  have fla1 := cellF la1
  have fla2 := cellF la2
  clear lc0 lc1 lc2 lc3 lc4 lc5 la0 la1 la2
  go_wp2_with fail
  refine wp_region_up (by kernel_rfl) (by kernel_rfl) ?_
  repeat (go_big_quiet_step ((first
    | (go_at_call 19; exact Calls.up_of (M6.out _))
    | (go_at_call 18; first
      | ((with_reducible (show Calls _ _ #[_, .int .i64 10, _] _ _)); exact Calls.up_of (M7.out _))
      | ((with_reducible (show Calls _ _ #[_, .int .i64 6, _] _ _)); exact Calls.up_of (M8.out _))))))
  refine wpQuiet_nil ?_
  rintro _ ⟨p', rfl⟩
  go_wp2
  refine bodyPost_ret (results_tmp4 rfl _ _ _) rfl ?_
  exact ⟨rfl, HU5.out.trans p'.up⟩

theorem awake26 (w : World) (hT : Tab w) : Calls Tryz.prog 4 #[] w fun e w' => e = .returned (.bool true) ∧ Up w w' := by
  have M1 := hid (fun w' (hU : Up w w') => SecretsAt 5 4 5 4 1 2 9 w' (hT.up hU) (by omega) (by omega) (by decide +kernel) (by decide +kernel) (by omega) (by omega) (by omega) (by decide +kernel) (by decide) (by decide) (by decide) (by decide))
  have M2 := hid (fun w' (hU : Up w w') => SecretsAt 1 6 6 7 3 10 7 w' (hT.up hU) (by omega) (by omega) (by decide +kernel) (by decide +kernel) (by omega) (by omega) (by omega) (by decide +kernel) (by decide) (by decide) (by decide) (by decide))
  have M3 := hid (fun w' (hU : Up w w') => SecretsZero w' (hT.up hU))
  have M4 := hid (fun w' (hU : Up w w') => Openings26 w' (hT.up hU))
  clear hT
  go_enter Tryz.func4, Tryz.ntmps4
  go_wp2_with fail
  refine (small26 _).mono ?_
  rintro e w1 ⟨rfl, hU1⟩
  have HU1 := hid ((Up.refl w).trans hU1)
  clear hU1
  go_wp2_with fail
  refine (M1.out _ (HU1.out)).mono ?_
  rintro e w2 ⟨rfl, hU2⟩
  have HU2 := hid (HU1.out.trans hU2)
  clear hU2 HU1
  go_wp2_with fail
  refine (small26 _).mono ?_
  rintro e w3 ⟨rfl, hU3⟩
  have HU3 := hid (HU2.out.trans hU3)
  clear hU3 HU2
  go_wp2_with fail
  refine (M2.out _ (HU3.out)).mono ?_
  rintro e w4 ⟨rfl, hU4⟩
  have HU4 := hid (HU3.out.trans hU4)
  clear hU4 HU3
  go_wp2_with fail
  refine (small26 _).mono ?_
  rintro e w5 ⟨rfl, hU5⟩
  have HU5 := hid (HU4.out.trans hU5)
  clear hU5 HU4
  go_wp2_with fail
  refine (M3.out _ (HU5.out)).mono ?_
  rintro e w6 ⟨rfl, hU6⟩
  have HU6 := hid (HU5.out.trans hU6)
  clear hU6 HU5
  go_wp2_with fail
  refine (small26 _).mono ?_
  rintro e w7 ⟨rfl, hU7⟩
  have HU7 := hid (HU6.out.trans hU7)
  clear hU7 HU6
  go_wp2_with fail
  refine (M4.out _ (HU7.out)).mono ?_
  rintro e w8 ⟨rfl, hU8⟩
  have HU8 := hid (HU7.out.trans hU8)
  clear hU8 HU7
  go_wp2
  go_ret
  exact ⟨rfl, HU8.out⟩
end Go.Proofs.YtdbhleinhpiohaaGreatDoor
namespace Go.Proofs.YtdbhleinhpiohaaGreatDoor
open Go.ChangeShapes Go.WideShapes Go.ChangeAt Go.RowKit Go.Sp Go.Joins

section
variable {H : Type} {enc : TypeId × Value → H} {P : Program}

theorem trodAll_later (hl : laidOutB P = true) {W W' : World} (hb : Below W.heap.size W W') : ∀ {ts : List TypeId} {vs : List Value} {ds : List (DataW H)} {ps : List MemPlace},
    ts.all (fun t => P.readableRec t && decide (t < P.types.size)) = true → (∀ x ∈ ps, x.block < W.heap.size) → DataW.TrodAll enc P W 0 (fun _ => true) true ts vs ds ps →
    DataW.TrodAll enc P W' 0 (fun b => decide (b < W.heap.size)) true ts vs ds ps
  | [], _, _, _, _, _, h => by
    obtain ⟨rfl, rfl, rfl⟩ := trodAll_nil h
    exact trodAll_mk0
  | t :: ts, _, _, _, hr, hlt, h => by
    obtain ⟨v, vs, d, ds, p, q, rfl, rfl, rfl, h1, h2⟩ := trodAll_cons h
    simp only [List.all_cons, Bool.and_eq_true, decide_eq_true_eq] at hr
    exact trodAll_cons_mk (Below.trod hl hr.1.1 hr.1.2 h1 hb (fun x hx => hlt x (List.mem_append_left _ hx)))
      (trodAll_later hl hb hr.2 (fun x hx => hlt x (List.mem_append_right _ hx)) h2)

/-- A law's post: true came back; nothing that was there has turned. -/
theorem law_shut {f : Func} {s : ChangeSpec} {T : TypeId} {W W' : World} {args : Array Value} {ds gs : List (DataW H)} {before : List MemPlace} (hb : P.underlying T = some .bool) (hr : f.resultTypes = #[T]) (hv : s.vars = [])
    (hs : s.fn H (ds ++ gs) = { results := [.lit (.bool true)], args := ds }) (hl : laidOutB P = true) (hpar : f.params.toList.all (fun t => P.readableRec t && decide (t < P.types.size)) = true)
    (hW : DataW.Whole enc P f.params.toList s.vars false W args.toList ds gs before) (hU : Below W.heap.size W W') : s.post enc P f false true false false W args (.bool true) W' := by
  have hlt := hW.lt
  have hW2 := hW
  obtain ⟨p, q, hA, hV, rfl, -, -⟩ := hW2
  rw [hv] at hV
  obtain ⟨rfl, rfl⟩ := trodVars_none hV
  rw [List.append_nil] at hlt
  refine ⟨ds, [], p ++ [], [], p, [], hW, ?_, ?_, ?_, Below.frame hU _, fun h => by cases h⟩
  · rw [hs, hr]
    exact trodAll_mk1 (shut_bool hb true)
  · rw [hs]
    exact trodAll_later hl hU hpar hlt hA
  · rw [hs, hv]
    rfl
end

theorem own : ownKnob Tryz.prog.godebug = none := by kernel_rfl
theorem laidOut : laidOutB Tryz.prog = true := by kernel_rfl
theorem gBases : Tryz.prog.globalNamed "specie/prime.bases" = some 1 := by kernel_rfl
theorem gBasesType : (Tryz.prog.globals[1]?).map (·.type) = some 124 := by kernel_rfl
theorem gTab : Tryz.prog.globalNamed "math/bits.deBruijn64tab" = some 5 := by kernel_rfl
theorem gTabType : (Tryz.prog.globals[5]?).map (·.type) = some 133 := by kernel_rfl
theorem cellsBases : Tryz.prog.cellsOf 124 = 12 := by kernel_rfl
theorem cellsTab : Tryz.prog.cellsOf 133 = 64 := by kernel_rfl
theorem cellsU64 : Tryz.prog.cellsOf 108 = 1 := by kernel_rfl
theorem cellsU8 : Tryz.prog.cellsOf 5 = 1 := by kernel_rfl
theorem cellsInt : Tryz.prog.cellsOf 3 = 1 := by kernel_rfl
theorem cellsGroup : Tryz.prog.cellsOf 23 = 3 := by kernel_rfl

/-- What each row lists. -/
abbrev laidTwo : List (String × DataW Unit) := [("math/bits.deBruijn64tab", Rows.laid_math_bits_deBruijn64tab), ("specie/prime.bases", Rows.laid_specie_prime_bases)]

theorem laid_tail {P : Program} {x : String × DataW Unit} {l : List (String × DataW Unit)} {w : World} (h : laidMet P (x :: l) w) : laidMet P l w := laidMet.tail h

theorem tab_of_laid {W : World} (h : laidMetH Tryz.prog laidTwo W) : Tab W := by
  have h0 : laidMet Tryz.prog laidTwo W := h
  have t1 : Lib.TabIs Tryz.prog W "math/bits.deBruijn64tab" .u8 (Lib.deBruijn64tab.map fun n : Nat => (n : Int)) :=
    Lib.tabIs_of_head (rest := [("specie/prime.bases", Rows.laid_specie_prime_bases)]) gTab gTabType Tryz.underlying133 Tryz.underlying5 cellsU8 cellsTab h0
  have t2 : Lib.TabIs Tryz.prog W "specie/prime.bases" .u64 baseList :=
    Lib.tabIs_of_head (rest := []) gBases gBasesType Tryz.underlying124 Tryz.underlying108 cellsU64 cellsBases (laid_tail h0)
  refine ⟨?_, fun i hi => ?_⟩
  · unfold Lib.TabIs World.var? at t2
    rw [gBases] at t2
    simp only [Option.bind_some] at t2
    split at t2
    · rename_i cs t fr hh
      simp only [Option.some.injEq] at t2
      exact ⟨t, fr, by rw [hh, t2]; rfl⟩
    · cases t2
  · have := t1.cell gTab i (by simpa [Lib.deBruijn64tab] using hi)
    rw [this]
    simp [List.getD_eq_getElem?_getD]
    cases h : Lib.deBruijn64tab[i]? <;> simp

set_option maxRecDepth 100000 in
/-- A group among the arguments: three numbers in their range. -/
theorem open_grp {H : Type} {enc : TypeId × Value → H} {r : Reach} {b0 base : Nat} {spare : Nat → Bool} {held : Bool} {w : World} {v : Value} {d : DataW H} {p : List MemPlace}
    (hv : Value.okWide Tryz.prog w r b0 23 v) (h : DataW.Trod enc Tryz.prog w base spare held 23 v d p) :
    ∃ P Q G : Int, v = grp P Q G ∧ (-9223372036854775808 ≤ P ∧ P ≤ 9223372036854775807) ∧ (-9223372036854775808 ≤ Q ∧ Q ≤ 9223372036854775807) ∧ (-9223372036854775808 ≤ G ∧ G ≤ 9223372036854775807) := by
  obtain ⟨c0, c1, c2, y0, y1, y2, m, rfl, rfl, rfl, hy0, hy1, hy2⟩ := open_agg3 Tryz.underlying23 (by kernel_rfl) cellsGroup hv h
  obtain ⟨a, e0, rfl, wa⟩ := DataW.trod_int Tryz.underlying3 hy0
  obtain ⟨b, e1, rfl, wb⟩ := DataW.trod_int Tryz.underlying3 hy1
  obtain ⟨c, e2, rfl, wc⟩ := DataW.trod_int Tryz.underlying3 hy2
  simp at e0 e1 e2
  subst e0 e1 e2
  exact ⟨a, b, c, rfl, bounds_i64 wa, bounds_i64 wb, bounds_i64 wc⟩

set_option maxRecDepth 100000 in
/-- An int among the arguments. -/
theorem open_i64 {H : Type} {enc : TypeId × Value → H} {r : Reach} {b0 base : Nat} {spare : Nat → Bool} {held : Bool} {w : World} {v : Value} {d : DataW H} {p : List MemPlace}
    (hv : Value.okWide Tryz.prog w r b0 3 v) (h : DataW.Trod enc Tryz.prog w base spare held 3 v d p) :
    ∃ x : Int, v = .int .i64 x ∧ -9223372036854775808 ≤ x ∧ x ≤ 9223372036854775807 := by
  obtain ⟨x, rfl, rfl, rfl, wx⟩ := open_int Tryz.underlying3 hv h
  exact ⟨x, rfl, (bounds_i64 wx).1, (bounds_i64 wx).2⟩
end Go.Proofs.YtdbhleinhpiohaaGreatDoor
namespace Go.Proofs.YtdbhleinhpiohaaGreatDoor
open Go.ChangeShapes Go.WideShapes Go.ChangeAt Go.RowKit Go.Sp Go.Joins Go.Deep

theorem ints_of_zs {w : World} {a : Addr} {len cap : Nat} {zs : List Int} (hl : len ≤ cap) (hm : cap ≤ maxLen) (hz : zs.length = cap) (hcell : ∀ i, i < zs.length → w.cell? (a.add i) = some (.int .i64 (zs.getD i 0))) :
    IntsAt w (.slice (some a) len cap) (zs.take len) := by
  unfold maxLen at hm
  have hlen : (zs.take len).length = len := by simp; omega
  refine ⟨by omega, some a, cap, by rw [hlen], fun hne => ?_⟩
  have h0 : 0 < len := by
    refine Nat.pos_of_ne_zero fun e => hne ?_
    subst e; simp
  obtain ⟨ab, ao, spot⟩ := a
  have hspot : spot = none := by simpa [Addr.add] using World.cell?_spot (hcell 0 (by omega))
  subst hspot
  refine ⟨ab, ao, rfl, fun i hi => ?_⟩
  rw [hlen] at hi
  have := hcell i (by omega)
  rw [Addr.add_lit] at this
  rw [this]
  simp [hi]

set_option maxRecDepth 100000 in
/-- A slice of integers among the arguments. -/
theorem open_intslice {H : Type} {enc : TypeId × Value → H} {b0 base : Nat} {w : World} {v : Value} {d : DataW H} {p : List MemPlace}
    (hv : Value.okWide Tryz.prog w .any b0 77 v) (h : DataW.Trod enc Tryz.prog w base (fun _ => true) true 77 v d p) :
    ∃ xs : List Int, IntsAt w v xs ∧ (∀ x ∈ xs, -9223372036854775808 ≤ x ∧ x ≤ 9223372036854775807) ∧ Room v := by
  obtain ⟨a1, len, cap, rfl⟩ := okWide_slice Tryz.underlying77 hv
  obtain ⟨fuel, hf⟩ := h
  rcases open_ints Tryz.underlying77 Tryz.underlying3 cellsInt hf with ⟨hcs, hx⟩ | ⟨a, len', cap', zs, hcs, _, hl, hm, hz, hx, hcell, hwz⟩
  · simp [Value.cells] at hcs
    obtain ⟨rfl, rfl, rfl⟩ := hcs
    exact ⟨[], ⟨by simp, none, 0, rfl, fun h => absurd rfl h⟩, (fun x hx => by cases hx), _, _, _, rfl, Nat.le_refl _, by omega, fun _ => rfl⟩
  · simp [Value.cells] at hcs
    obtain ⟨rfl, rfl, rfl⟩ := hcs
    simp only [if_true] at hz
    exact ⟨zs.take len, ints_of_zs hl hm hz hcell, (fun x hx => bounds_i64 (hwz x (List.mem_of_mem_take hx))), _, _, _, rfl, hl, by unfold maxLen at hm; omega, fun h => by cases h⟩

set_option maxRecDepth 100000 in
/-- Bases among the arguments: six numbers. -/
theorem open_bases {H : Type} {enc : TypeId × Value → H} {r : Reach} {b0 base : Nat} {spare : Nat → Bool} {held : Bool} {w : World} {v : Value} {d : DataW H} {p : List MemPlace}
    (hv : Value.okWide Tryz.prog w r b0 25 v) (h : DataW.Trod enc Tryz.prog w base spare held 25 v d p) :
    ∃ P Q G A B C : Int, v = .agg #[.int .i64 P, .int .i64 Q, .int .i64 G, .int .i64 A, .int .i64 B, .int .i64 C] ∧ (-9223372036854775808 ≤ P ∧ P ≤ 9223372036854775807) ∧ (-9223372036854775808 ≤ Q ∧ Q ≤ 9223372036854775807) ∧ (-9223372036854775808 ≤ G ∧ G ≤ 9223372036854775807) ∧
      (-9223372036854775808 ≤ A ∧ A ≤ 9223372036854775807) ∧ (-9223372036854775808 ≤ B ∧ B ≤ 9223372036854775807) ∧ (-9223372036854775808 ≤ C ∧ C ≤ 9223372036854775807) := by
  obtain ⟨cs, rfl, hsz⟩ := okWide_struct Tryz.underlying25 hv
  have hC : Tryz.prog.cellsOf 25 = 6 := by kernel_rfl
  obtain ⟨l⟩ := cs
  match l, hsz.trans hC with
  | [c0, c1, c2, c3, c4, c5], _ =>
    obtain ⟨fuel, hf⟩ := h
    obtain ⟨xs, n, _, hx, _, hlen, hg⟩ := DataW.trod_struct Tryz.underlying25 hf
    match xs, hlen with
    | [y0, y1, y2, y3], _ =>
      have f0 := hg 0 _ rfl
      have f1 := hg 1 _ rfl
      have f2 := hg 2 _ rfl
      have f3 := hg 3 _ rfl
      simp [Value.cells, cellsGroup, cellsInt] at f0 f1 f2 f3
      obtain ⟨zs, m, _, hz, _, hzl, hzg⟩ := DataW.trod_struct Tryz.underlying23 f0
      match zs, hzl with
      | [z0, z1, z2], _ =>
        have e0 := hzg 0 _ rfl
        have e1 := hzg 1 _ rfl
        have e2 := hzg 2 _ rfl
        simp [cellsInt] at e0 e1 e2
        obtain ⟨q0, h0, rfl, w0⟩ := DataW.trod_int Tryz.underlying3 e0
        obtain ⟨q1, h1, rfl, w1⟩ := DataW.trod_int Tryz.underlying3 e1
        obtain ⟨q2, h2, rfl, w2⟩ := DataW.trod_int Tryz.underlying3 e2
        obtain ⟨q3, h3, rfl, w3⟩ := DataW.trod_int Tryz.underlying3 f1
        obtain ⟨q4, h4, rfl, w4⟩ := DataW.trod_int Tryz.underlying3 f2
        obtain ⟨q5, h5, rfl, w5⟩ := DataW.trod_int Tryz.underlying3 f3
        simp at h0 h1 h2 h3 h4 h5
        subst h0 h1 h2 h3 h4 h5
        exact ⟨q0, q1, q2, q3, q4, q5, rfl, bounds_i64 w0, bounds_i64 w1, bounds_i64 w2, bounds_i64 w3, bounds_i64 w4, bounds_i64 w5⟩

set_option maxRecDepth 100000 in
/-- A byte among the arguments. -/
theorem open_u8 {H : Type} {enc : TypeId × Value → H} {r : Reach} {b0 base : Nat} {spare : Nat → Bool} {held : Bool} {w : World} {v : Value} {d : DataW H} {p : List MemPlace}
    (hv : Value.okWide Tryz.prog w r b0 5 v) (h : DataW.Trod enc Tryz.prog w base spare held 5 v d p) :
    ∃ x : Int, v = .int .u8 x ∧ 0 ≤ x ∧ x ≤ 255 := by
  obtain ⟨x, rfl, rfl, rfl, wx⟩ := open_int Tryz.underlying5 hv h
  have a : IntKind.u8.min = 0 := by decide
  have b : IntKind.u8.max = 255 := by decide
  simp [Lit.wf, a, b] at wx
  exact ⟨x, rfl, by omega, by omega⟩
end Go.Proofs.YtdbhleinhpiohaaGreatDoor
