/- The examples of layer 23. The reference of layer 23: Commit, Fits, Check, User. The reference of the transcript: labels, valid transcripts, valid items. The reference of the transcript: New, the frame. -/
import Derived.Test.YtdlcmpbpdbpanaaGreatDoorMB26
import Derived.Test.YtdlcmpbpdbpanaaGreatDoorMB15
import Derived.Test.YtdlcmpbpdbpanaaGreatDoorMB17
import Derived.Test.YtdlcmpbpdbpanaaGreatDoorMB22
import Derived.Test.YtdlcmpbpdbpanaaGreatDoorMB19
import Derived.Test.YtdlcmpbpdbpanaaGreatDoorMB21
namespace Go.Proofs.YtdlcmpbpdbpanaaGreatDoor
open Go.RowKit Go.Sp
set_option maxHeartbeats 4000000
set_option maxRecDepth 20000

theorem r23Scalar_any (P Q G x : Int) (w : World) :
    Calls Tryz.prog 47 #[grp P Q G, .int .i64 x] w fun e w' => e = .returned (.bool (exB Q x)) ∧ Up w w' := by
  have HB : Hid (exB Q x = (decide (0 ≤ x) && decide (x < Q))) := hid rfl
  generalize exB Q x = X at *
  by_cases c1 : x ≥ 0
  case neg =>
    have d1 : decide (x ≥ 0) = false := by simpa using c1
    have hX : X = false := by rw [HB.out, show decide (0 ≤ x) = false from d1]; rfl
    subst hX
    clear c1
    go_enter Tryz.func47, Tryz.ntmps47
    go_wp2
    go_ret
    exact ⟨rfl, (Up.refl w).alloc _⟩
  have d1 : decide (x ≥ 0) = true := by simpa using c1
  have HB2 : Hid (X = decide (x < Q)) := hid (by rw [HB.out, show decide (0 ≤ x) = true from d1]; rfl)
  clear HB
  go_enter Tryz.func47, Tryz.ntmps47
  go_wp2
  go_ret
  exact ⟨by rw [HB2.out]; rfl, (Up.refl w).alloc _⟩

theorem awake23 (w : World) (hT : Tab w) (hS : TabS w) : Calls Tryz.prog 42 #[] w fun e w' => e = .returned (.bool true) ∧ Up w w' := by
  have M1 := hid (fun w' (hU : Up w w') => bliOffer_any 23 11 4 1 w' (by omega) (by omega) (hT.up hU))
  rw [show errE (gvB 23 11 4) ([1].all (exB 11)) = 0 by decide +kernel, show pwi 23 4 1 = 4 by decide +kernel, show orZ 0 4 = 4 from rfl] at M1
  have M2 := hid (fun w' (hU : Up w w') => bliBlind_any 23 11 4 18 4 2 1 (.slice none 0 0) [] w' (by omega) (by omega) (hT.up hU) (hS.up hU) seq_none (by simp))
  rw [show bldE 23 11 4 18 4 2 1 ([] : List Int).length = 0 by decide +kernel, show bcm 23 11 4 18 4 2 1 = 2 by decide +kernel] at M2
  generalize sigC 23 11 4 2 18 [] = D at *
  generalize (D + 1) % 11 = C at *
  rw [show orZ 0 2 = 2 from rfl, show orZ 0 1 = 1 from rfl, show orZ 0 D = D from rfl, show orZ 0 C = C from rfl] at M2
  have M3 := hid (fun w' (hU : Up w w') => bliAnswer_any 23 11 4 3 1 5 w' (by omega) (by omega) (hT.up hU))
  rw [show errE (gvB 23 11 4) ([3, 1, 5].all (exB 11)) = 0 by decide +kernel, show ansV 11 3 1 5 = 5 by decide +kernel, show orZ 0 5 = 5 from rfl] at M3
  have M4 := hid (fun w' (hU : Up w w') => bliCheck_any 23 11 4 18 4 5 5 w' (by omega) (by omega) (hT.up hU))
  rw [show chkB 23 11 4 18 4 5 5 = true by decide +kernel] at M4
  clear hT hS
  obtain ⟨o, ho⟩ : ∃ o, w.heap.size = o := ⟨_, rfl⟩
  have HO := hid ho
  obtain ⟨o1, ho1⟩ : ∃ o1, o + 1 = o1 := ⟨_, rfl⟩
  have HO1 := hid ho1
  clear ho ho1
  go_enter Tryz.func42, Tryz.ntmps42
  go_wp2_with fail
  refine (M1.out _ ((Up.refl w).alloc _)).mono ?_
  rintro e w1 ⟨rfl, hU1⟩
  have HA1 := hid ((nums_three (w := w) (t := 23) HO.out).up hU1)
  have HU1 := hid (((Up.refl w).alloc _).trans hU1)
  clear hU1
  rw [HO.out]
  obtain ⟨c0, c1, c2⟩ := HA1.out
  go_wp2_with fail
  refine (M2.out _ (HU1.out)).mono ?_
  rintro e w2 ⟨rfl, hU2⟩
  have HA2 := hid (HA1.out.up hU2)
  have HU2 := hid (HU1.out.trans hU2)
  clear hU2 HA1 HU1 c0 c1 c2
  obtain ⟨c0, c1, c2⟩ := HA2.out
  obtain ⟨o2, ho2⟩ : ∃ o2, w2.heap.size = o2 := ⟨_, rfl⟩
  have lo2 : o < o2 := by rw [← ho2]; exact cell_lt c0
  go_wp2_with fail
  refine (M3.out _ (HU2.out.alloc _)).mono ?_
  rintro e w3 ⟨rfl, hU3⟩
  have HB3 := hid ((Blk.new (g := o2) (t := 71) (cs := #[.int .i64 2, .int .i64 1, .int .i64 2, .int .i64 D]) ho2 rfl).up hU3)
  have hU3 := ((Up.refl w2).alloc _).trans hU3
  have HA3 := hid (HA2.out.up hU3)
  have HU3 := hid (HU2.out.trans hU3)
  clear hU3 HA2 HU2 c0 c1 c2
  try rw [ho2]
  clear ho2
  obtain ⟨c0, c1, c2⟩ := HA3.out
  have u0 := HB3.out.val (i := 0) rfl
  have u1 := HB3.out.val (i := 1) rfl
  have u2 := HB3.out.val (i := 2) rfl
  have u3 := HB3.out.val (i := 3) rfl
  go_wp2_with fail
  refine (M4.out _ (HU3.out)).mono ?_
  rintro e w4 ⟨rfl, hU4⟩
  have HA4 := hid (HA3.out.up hU4)
  have HB4 := hid (HB3.out.up hU4)
  have HU4 := hid (HU3.out.trans hU4)
  clear hU4 HA3 HB3 HU3 c0 c1 c2 u0 u1 u2 u3
  go_wp2
  go_ret
  exact ⟨rfl, HU4.out⟩
end Go.Proofs.YtdlcmpbpdbpanaaGreatDoor
namespace Go.Proofs.YtdlcmpbpdbpanaaGreatDoor
open Go.RowKit Go.Sp
set_option maxHeartbeats 4000000
set_option maxRecDepth 20000

theorem bcm_ref {P Q G y r al be : Int} (hg : gvB P Q G = true) (hr : elB P Q r = true) (ha : exB Q al = true) : r * (pwi P G al * gpw P Q y be % P) % P = bcm P Q G y r al be := by
  rw [bcm_eq (gv_q hg).1 hr, ← gpw_sc (Q := Q) (exB_iff.1 ha).1 (exB_iff.1 ha).2]
  simp only [ml, mr]
  rw [Int.mul_assoc]
theorem rgt_ref {P Q G y r c s : Int} (hg : gvB P Q G = true) (hy : elB P Q y = true) (hr : elB P Q r = true) (hc : exB Q c = true) (hs : exB Q s = true) : (pwi P G s == r * gpw P Q y c % P) = rgtB P Q G y r c s := by
  have h := one_fit (c := c) (s := s) (x := r) hg hy (exB_iff.1 hs).1 (exB_iff.1 hs).2 hr
  rw [gpw_sc (exB_iff.1 hs).1 (exB_iff.1 hs).2] at h
  simp only [rgtB, frgE_of hg hy hc hs, decide_true, Bool.true_and]
  rw [Bool.eq_iff_iff]
  simp only [beq_iff_eq]
  constructor
  · intro e; exact (h.1 e.symm).symm
  · intro e; exact (h.2 e.symm).symm

theorem r23Commit_ok (P Q G y r al be : Int) (w : World) (hg : gvB P Q G = true) (hy : elB P Q y = true) (hr : elB P Q r = true) (ha : exB Q al = true) (hb : exB Q be = true) :
    Calls Tryz.prog 55 #[grp P Q G, .int .i64 y, .int .i64 r, .int .i64 al, .int .i64 be] w fun e w' => e = .returned (.int .i64 (bcm P Q G y r al be)) ∧ Up w w' := by
  have g := gv_iff.1 hg
  have g1 := g.P61
  have g2 := g.P4
  have g3 := g.Q3
  have g4 := g.QP
  have g5 := g.G2
  have g6 := g.GP
  obtain ⟨y0, y1, _⟩ := el_iff.1 hy
  obtain ⟨r0, r1, _⟩ := el_iff.1 hr
  obtain ⟨a0, a1⟩ := exB_iff.1 ha
  obtain ⟨b0, b1⟩ := exB_iff.1 hb
  have M1 := hid (fun w' => rgPower_sc P Q G G al w' (by omega) g6 a0 a1 g1 (by omega))
  have M2 := hid (fun w' => rgPower_ok P Q G y be w' (by omega) y1 (by omega) (by omega) g1 (by omega) (by omega))
  have x := pwi_range (P := P) (a := G) (e := al) (by omega)
  have z := gpw_nonneg (P := P) (Q := Q) (a := y) (m := be) (by omega)
  have hB := bcm_ref (y := y) (be := be) hg hr ha
  generalize pwi P G al = X at *
  generalize gpw P Q y be = Z at *
  have M3 := hid (fun w' => rgMul_ok P Q G X Z w' x.1 x.2 z.1 z.2 g1)
  have t0 := Int.emod_nonneg (X * Z) (show P ≠ 0 by omega)
  have t1 := Int.emod_lt_of_pos (X * Z) (show 0 < P by omega)
  obtain ⟨T, hT⟩ : ∃ T, X * Z % P = T := ⟨_, rfl⟩
  rw [hT] at M3 t0 t1 hB
  have M4 := hid (fun w' => rgMul_ok P Q G r T w' (by omega) r1 t0 t1 g1)
  rw [hB] at M4
  generalize bcm P Q G y r al be = K at *
  obtain ⟨o, ho⟩ : ∃ o, w.heap.size = o := ⟨_, rfl⟩
  have HO := hid ho
  clear hg hy hr ha hb g g1 g2 g3 g4 g5 g6 y0 y1 r0 r1 a0 a1 b0 b1 x z hB hT t0 t1 ho
  go_enter Tryz.func55, Tryz.ntmps55
  go_wp2_with fail
  have HA0 := hid (nums_three (w := w) (x := P) (y := Q) (z := G) (t := 23) HO.out)
  have HU0 := hid ((Up.refl w).alloc (.cells #[.int .i64 P, .int .i64 Q, .int .i64 G] 23))
  obtain ⟨c0, c1, c2⟩ := HA0.out
  have fc0 := cellF c0
  have fc1 := cellF c1
  have fc2 := cellF c2
  clear c0 c1 c2
  go_wp2_with fail
  try rw [HO.out]
  refine wp_region_up (by kernel_rfl) (by kernel_rfl) ?_
  repeat (go_big_quiet_step ((first
      | (go_at_call 35; first
        | ((with_reducible (show Calls _ _ #[_, .int .i64 G, _] _ _)); exact Calls.up_of (M1.out _))
        | ((with_reducible (show Calls _ _ #[_, .int .i64 y, _] _ _)); exact Calls.up_of (M2.out _)))
      | (go_at_call 86; first
        | ((with_reducible (show Calls _ _ #[_, .int .i64 X, _] _ _)); exact Calls.up_of (M3.out _))
        | ((with_reducible (show Calls _ _ #[_, .int .i64 r, _] _ _)); exact Calls.up_of (M4.out _))))))
  refine wpQuiet_nil ?_
  rintro w1 ⟨⟨_, hU1⟩, rfl⟩
  try dsimp only
  have HA1 := hid (HA0.out.up hU1)
  have HU1 := hid (HU0.out.trans hU1)
  clear hU1 HA0 HU0 fc0 fc1 fc2
  go_wp2
  go_ret
  exact ⟨rfl, HU1.out⟩

theorem r23Fits_ok (P Q G y r c s : Int) (w : World) (hg : gvB P Q G = true) (hy : elB P Q y = true) (hr : elB P Q r = true) (hc : exB Q c = true) (hs : exB Q s = true) :
    Calls Tryz.prog 56 #[grp P Q G, .int .i64 y, .int .i64 r, .int .i64 c, .int .i64 s] w fun e w' => e = .returned (.bool (rgtB P Q G y r c s)) ∧ Up w w' := by
  have g := gv_iff.1 hg
  have g1 := g.P61
  have g2 := g.P4
  have g3 := g.Q3
  have g4 := g.QP
  have g5 := g.G2
  have g6 := g.GP
  obtain ⟨y0, y1, _⟩ := el_iff.1 hy
  obtain ⟨r0, r1, _⟩ := el_iff.1 hr
  obtain ⟨c0, c1⟩ := exB_iff.1 hc
  obtain ⟨s0, s1⟩ := exB_iff.1 hs
  have M1 := hid (fun w' => rgPower_sc P Q G G s w' (by omega) g6 s0 s1 g1 (by omega))
  have M2 := hid (fun w' => rgPower_ok P Q G y c w' (by omega) y1 (by omega) (by omega) g1 (by omega) (by omega))
  have z := gpw_nonneg (P := P) (Q := Q) (a := y) (m := c) (by omega)
  have hB := hid (rgt_ref hg hy hr hc hs)
  generalize pwi P G s = X at *
  generalize gpw P Q y c = Z at *
  have M3 := hid (fun w' => rgMul_ok P Q G r Z w' (by omega) r1 z.1 z.2 g1)
  generalize r * Z % P = T at *
  generalize rgtB P Q G y r c s = B at *
  obtain ⟨o, ho⟩ : ∃ o, w.heap.size = o := ⟨_, rfl⟩
  have HO := hid ho
  clear hg hy hr hc hs g g1 g2 g3 g4 g5 g6 y0 y1 r0 r1 c0 c1 s0 s1 z ho
  go_enter Tryz.func56, Tryz.ntmps56
  go_wp2_with fail
  have HA0 := hid (nums_three (w := w) (x := P) (y := Q) (z := G) (t := 23) HO.out)
  have HU0 := hid ((Up.refl w).alloc (.cells #[.int .i64 P, .int .i64 Q, .int .i64 G] 23))
  obtain ⟨c0, c1, c2⟩ := HA0.out
  have fc0 := cellF c0
  have fc1 := cellF c1
  have fc2 := cellF c2
  clear c0 c1 c2
  go_wp2_with fail
  try rw [HO.out]
  refine wp_region_up (by kernel_rfl) (by kernel_rfl) ?_
  repeat (go_big_quiet_step ((first
      | (go_at_call 35; first
        | ((with_reducible (show Calls _ _ #[_, .int .i64 G, _] _ _)); exact Calls.up_of (M1.out _))
        | ((with_reducible (show Calls _ _ #[_, .int .i64 y, _] _ _)); exact Calls.up_of (M2.out _)))
      | (go_at_call 86; exact Calls.up_of (M3.out _)))))
  refine wpQuiet_nil ?_
  rintro w1 ⟨⟨_, hU1⟩, rfl⟩
  try dsimp only
  have HA1 := hid (HA0.out.up hU1)
  have HU1 := hid (HU0.out.trans hU1)
  clear hU1 HA0 HU0 fc0 fc1 fc2
  go_wp2
  go_ret
  exact ⟨by rw [← hB.out]; rfl, HU1.out⟩

/-- A valid state of a receiver. -/
def usrB (P Q al be cm ch : Int) : Bool := exB Q al && (exB Q be && (exB Q ch && elB P Q cm))
theorem r23User_any (P Q G al be cm ch : Int) (w : World) (g1 : P < 2305843009213693952) (g3 : 0 ≤ Q) (hQ : Q ≤ 9223372036854775807) :
    Calls Tryz.prog 54 #[grp P Q G, .agg #[.int .i64 al, .int .i64 be, .int .i64 cm, .int .i64 ch]] w fun e w' => e = .returned (.bool (usrB P Q al be cm ch)) ∧ Up w w' := by
  have M1 := hid (fun w' => r23Scalar_any P Q G al w')
  have M2 := hid (fun w' => r23Scalar_any P Q G be w')
  have M3 := hid (fun w' => r23Scalar_any P Q G ch w')
  have M4 := hid (fun w' => rMember_any P Q G cm w' g1 g3 hQ)
  have HB0 : Hid (usrB P Q al be cm ch = (exB Q al && (exB Q be && (exB Q ch && elB P Q cm)))) := hid rfl
  generalize usrB P Q al be cm ch = T at *
  generalize exB Q al = b1 at *
  generalize exB Q be = b2 at *
  generalize exB Q ch = b3 at *
  generalize elB P Q cm = b4 at *
  obtain ⟨o, ho⟩ : ∃ o, w.heap.size = o := ⟨_, rfl⟩
  have HO := hid ho
  obtain ⟨o1, ho1⟩ : ∃ o1, o + 1 = o1 := ⟨_, rfl⟩
  have HO1 := hid ho1
  clear ho ho1
  go_enter Tryz.func54, Tryz.ntmps54
  go_wp2_with fail
  refine (M1.out _).mono ?_
  rintro e w1 ⟨rfl, hU1⟩
  have HA1 := hid (((nums_three (w := w) (t := 23) HO.out).up ((Up.refl _).alloc _)).up hU1)
  have HD1 := hid (((Blk.new (g := o1) (t := 71) (cs := #[.int .i64 al, .int .i64 be, .int .i64 cm, .int .i64 ch]) (by have := HO.out; have := HO1.out; simp; omega) rfl)).up hU1)
  have HU1 := hid ((((Up.refl w).alloc _).alloc _).trans hU1)
  clear hU1
  rw [HO.out, HO1.out]
  obtain ⟨c0, c1, c2⟩ := HA1.out
  have u0 := HD1.out.val (i := 0) rfl
  have u1 := HD1.out.val (i := 1) rfl
  have u2 := HD1.out.val (i := 2) rfl
  have u3 := HD1.out.val (i := 3) rfl
  cases b1
  case false =>
    have hX : T = false := HB0.out
    subst hX
    go_wp2
    go_ret
    exact ⟨rfl, HU1.out⟩
  have HB1 : Hid (T = (b2 && (b3 && b4))) := hid HB0.out
  clear HB0
  go_wp2_with fail
  refine (M2.out _).mono ?_
  rintro e w2 ⟨rfl, hU2⟩
  have HA2 := hid (HA1.out.up hU2)
  have HD2 := hid (HD1.out.up hU2)
  have HU2 := hid (HU1.out.trans hU2)
  clear hU2 HA1 HD1 HU1 c0 c1 c2 u0 u1 u2 u3
  obtain ⟨c0, c1, c2⟩ := HA2.out
  have u0 := HD2.out.val (i := 0) rfl
  have u1 := HD2.out.val (i := 1) rfl
  have u2 := HD2.out.val (i := 2) rfl
  have u3 := HD2.out.val (i := 3) rfl
  cases b2
  case false =>
    have hX : T = false := HB1.out
    subst hX
    go_wp2
    go_ret
    exact ⟨rfl, HU2.out⟩
  have HB2 : Hid (T = (b3 && b4)) := hid HB1.out
  clear HB1
  go_wp2_with fail
  refine (M3.out _).mono ?_
  rintro e w3 ⟨rfl, hU3⟩
  have HA3 := hid (HA2.out.up hU3)
  have HD3 := hid (HD2.out.up hU3)
  have HU3 := hid (HU2.out.trans hU3)
  clear hU3 HA2 HD2 HU2 c0 c1 c2 u0 u1 u2 u3
  obtain ⟨c0, c1, c2⟩ := HA3.out
  have u0 := HD3.out.val (i := 0) rfl
  have u1 := HD3.out.val (i := 1) rfl
  have u2 := HD3.out.val (i := 2) rfl
  have u3 := HD3.out.val (i := 3) rfl
  cases b3
  case false =>
    have hX : T = false := HB2.out
    subst hX
    go_wp2
    go_ret
    exact ⟨rfl, HU3.out⟩
  have HB3 : Hid (T = (b4)) := hid HB2.out
  clear HB2
  go_wp2_with fail
  refine (M4.out _).mono ?_
  rintro e w4 ⟨rfl, hU4⟩
  have HA4 := hid (HA3.out.up hU4)
  have HD4 := hid (HD3.out.up hU4)
  have HU4 := hid (HU3.out.trans hU4)
  clear hU4 HA3 HD3 HU3 c0 c1 c2 u0 u1 u2 u3
  go_wp2
  go_ret
  exact ⟨by rw [HB3.out]; rfl, HU4.out⟩

theorem r23Check_ok (P Q G y r c s : Int) (w : World) (hQ : Q ≤ 9223372036854775807) (hg : gvB P Q G = true) :
    Calls Tryz.prog 53 #[grp P Q G, .int .i64 y, .agg #[.int .i64 r, .int .i64 c, .int .i64 s]] w fun e w' => e = .returned (.bool (chkB P Q G y r c s)) ∧ Up w w' := by
  have g := gv_iff.1 hg
  have g1 := g.P61
  have g3 := g.Q3
  have M1 := hid (fun w' => rMember_any P Q G y w' g1 (by omega) hQ)
  have M2 := hid (fun w' => rMember_any P Q G r w' g1 (by omega) hQ)
  have M3 := hid (fun w' => r23Scalar_any P Q G c w')
  have M4 := hid (fun w' => r23Scalar_any P Q G s w')
  have M5 := hid (fun w' h1 h2 h3 h4 => r23Fits_ok P Q G y r c s w' hg h1 h2 h3 h4)
  have HB0 : Hid (chkB P Q G y r c s = (elB P Q y && (elB P Q r && (exB Q c && (exB Q s && rgtB P Q G y r c s))))) := hid (by
    unfold chkB conB
    rw [hg]
    simp only [List.all_cons, List.all_nil, Bool.true_and, Bool.and_true, Bool.and_assoc])
  generalize chkB P Q G y r c s = T at *
  generalize elB P Q y = b1 at *
  generalize elB P Q r = b2 at *
  generalize exB Q c = b3 at *
  generalize exB Q s = b4 at *
  generalize rgtB P Q G y r c s = b5 at *
  obtain ⟨o, ho⟩ : ∃ o, w.heap.size = o := ⟨_, rfl⟩
  have HO := hid ho
  obtain ⟨o1, ho1⟩ : ∃ o1, o + 1 = o1 := ⟨_, rfl⟩
  have HO1 := hid ho1
  clear ho ho1 hg g g1 g3
  go_enter Tryz.func53, Tryz.ntmps53
  go_wp2_with fail
  refine (M1.out _).mono ?_
  rintro e w1 ⟨rfl, hU1⟩
  have HA1 := hid (((nums_three (w := w) (t := 23) HO.out).up ((Up.refl _).alloc _)).up hU1)
  have HV1 := hid (((nums_three (r := o1) (t := 80) (by have := HO.out; have := HO1.out; simp; omega))).up hU1)
  have HU1 := hid ((((Up.refl w).alloc _).alloc _).trans hU1)
  clear hU1
  rw [HO.out, HO1.out]
  obtain ⟨c0, c1, c2⟩ := HA1.out
  obtain ⟨v0, v1, v2⟩ := HV1.out
  cases b1
  case false =>
    have hX : T = false := HB0.out
    subst hX
    go_wp2
    go_ret
    exact ⟨rfl, HU1.out⟩
  have HB1 : Hid (T = (b2 && (b3 && (b4 && b5)))) := hid HB0.out
  clear HB0
  go_wp2_with fail
  refine (M2.out _).mono ?_
  rintro e w2 ⟨rfl, hU2⟩
  have HA2 := hid (HA1.out.up hU2)
  have HV2 := hid (HV1.out.up hU2)
  have HU2 := hid (HU1.out.trans hU2)
  clear hU2 HA1 HV1 HU1 c0 c1 c2 v0 v1 v2
  obtain ⟨c0, c1, c2⟩ := HA2.out
  obtain ⟨v0, v1, v2⟩ := HV2.out
  cases b2
  case false =>
    have hX : T = false := HB1.out
    subst hX
    go_wp2
    go_ret
    exact ⟨rfl, HU2.out⟩
  have HB2 : Hid (T = (b3 && (b4 && b5))) := hid HB1.out
  clear HB1
  go_wp2_with fail
  refine (M3.out _).mono ?_
  rintro e w3 ⟨rfl, hU3⟩
  have HA3 := hid (HA2.out.up hU3)
  have HV3 := hid (HV2.out.up hU3)
  have HU3 := hid (HU2.out.trans hU3)
  clear hU3 HA2 HV2 HU2 c0 c1 c2 v0 v1 v2
  obtain ⟨c0, c1, c2⟩ := HA3.out
  obtain ⟨v0, v1, v2⟩ := HV3.out
  cases b3
  case false =>
    have hX : T = false := HB2.out
    subst hX
    go_wp2
    go_ret
    exact ⟨rfl, HU3.out⟩
  have HB3 : Hid (T = (b4 && b5)) := hid HB2.out
  clear HB2
  go_wp2_with fail
  refine (M4.out _).mono ?_
  rintro e w4 ⟨rfl, hU4⟩
  have HA4 := hid (HA3.out.up hU4)
  have HV4 := hid (HV3.out.up hU4)
  have HU4 := hid (HU3.out.trans hU4)
  clear hU4 HA3 HV3 HU3 c0 c1 c2 v0 v1 v2
  obtain ⟨c0, c1, c2⟩ := HA4.out
  obtain ⟨v0, v1, v2⟩ := HV4.out
  cases b4
  case false =>
    have hX : T = false := HB3.out
    subst hX
    go_wp2
    go_ret
    exact ⟨rfl, HU4.out⟩
  have HB4 : Hid (T = (b5)) := hid HB3.out
  clear HB3
  go_wp2_with fail
  refine (M5.out _ (by trivial) (by trivial) (by trivial) (by trivial)).mono ?_
  rintro e w5 ⟨rfl, hU5⟩
  have HA5 := hid (HA4.out.up hU5)
  have HV5 := hid (HV4.out.up hU5)
  have HU5 := hid (HU4.out.trans hU5)
  clear hU5 HA4 HV4 HU4 c0 c1 c2 v0 v1 v2
  go_wp2
  go_ret
  exact ⟨by rw [HB4.out]; rfl, HU5.out⟩
end Go.Proofs.YtdlcmpbpdbpanaaGreatDoor
namespace Go.Proofs.YtdlcmpbpdbpanaaGreatDoor
open Go.RowKit Go.Sp
set_option maxHeartbeats 4000000
set_option maxRecDepth 20000

theorem rlabel_ok (s : ByteArray) (w : World) (h : Lab s) : Calls Tryz.prog 175 #[.string s] w fun e w' => e = .returned (.bool true) ∧ Up w w' := by
  have d0 : decide ((s.size : Int) < 1) = false := by have := h.one; simp; omega
  have d1 : decide ((s.size : Int) > 24) = false := by have := h.max; simp; omega
  obtain ⟨m, hm⟩ : ∃ m, s.size = m := ⟨_, rfl⟩
  have hm2 : m ≤ 24 := by have := h.max; omega
  have HX : Hid (∀ i (hi : i < s.size), 33 ≤ ((s[i]'hi).toNat : Int) ∧ ((s[i]'hi).toNat : Int) ≤ 126) := hid (fun i hi => by
    refine h.chr _ ?_
    simp only [txt, List.mem_map]
    exact ⟨s[i]'hi, Array.mem_toList_iff.2 (Array.getElem_mem (xs := s.data) hi), rfl⟩)
  have HM := hid hm
  clear h hm
  go_enter Tryz.func175, Tryz.ntmps175
  go_wp2_with fail
  go_loopw [3] (fun vi wr => ∃ i : Nat, i ≤ m ∧ vi = .int .i64 i ∧ Hid (Up w wr)) (fun vi _ => m - (intOf vi).toNat)
  case atStart => exact ⟨0, by omega, rfl, hid (Up.refl _)⟩
  case round =>
    obtain ⟨i, him, rfl, HU⟩ := hrel
    by_cases hl : i < m
    · have hl3 : i < s.size := by have := HM.out; omega
      have hs1 : (i : Int) < s.size := by omega
      obtain ⟨x0, x1⟩ := HX.out i hl3
      have e0 : decide (((s[i]'hl3).toNat : Int) < 33) = false := by simp only [decide_eq_false_iff_not]; omega
      have e1 : decide (((s[i]'hl3).toNat : Int) > 126) = false := by simp only [decide_eq_false_iff_not]; omega
      have hs2 : decide ((i : Int) < s.size) = true := by simp; omega
      go_wp2_with fail
      go_roundw
      case rel => exact ⟨i + 1, by omega, by go_num, HU⟩
      case measure => simp [intOf]; omega
    · have hl4 : ¬ ((i : Int) < s.size) := by have := HM.out; omega
      go_wp2
      go_ret
      exact ⟨rfl, HU.out⟩

theorem r8Valid_ok (h : Nat → Int) (c : Int) (w : World) (c0 : 0 ≤ c) (c1 : c ≤ 1000) : Calls Tryz.prog 174 #[drw h c] w fun e w' => e = .returned (.bool true) ∧ Up w w' := by
  have hq := drwA_ctr h c
  unfold drw
  generalize drwA h c = cs at *
  have d0 : decide (c ≥ 0) = true := by simp; omega
  have d1 : decide (c ≤ 1000) = true := by simp; omega
  go_enter Tryz.func174, Tryz.ntmps174
  go_wp2
  go_ret
  exact ⟨rfl, (Up.refl w).alloc _⟩

theorem rval_int (n t : Int) (w : World) : Calls Tryz.prog 213 #[itm 1 n nilS nilS, .int .i64 t] w fun e w' => e = .returned (.bool true) ∧ Up w w' := by
  go_enter Tryz.func213, Tryz.ntmps213
  go_wp2
  go_ret
  exact ⟨rfl, (Up.refl w).alloc _⟩

theorem rval_bytes (a : Option Addr) (m c : Nat) (t : Int) (w : World) : Calls Tryz.prog 213 #[itm 2 0 (.slice a m c) nilS, .int .i64 t] w fun e w' => e = .returned (.bool true) ∧ Up w w' := by
  go_enter Tryz.func213, Tryz.ntmps213
  go_wp2
  go_ret
  exact ⟨rfl, (Up.refl w).alloc _⟩

theorem rval_list (l : Value) (ess : List (List Int)) (R : Int → Int → Value → Value → List Int → Prop) (t : Nat) (w : World) (hr : ItmRow R w l ess) (hl : ess.length ≤ 1000) (ht : t < 8)
    (hsh : ∀ k n b l es, R k n b l es → (∃ a m c, b = .slice a m c) ∧ ∃ a m c, l = .slice a m c)
    (hf : ∀ k n b l es, R k n b l es → ∀ w', Up w w' → Calls Tryz.prog 213 #[itm k n b l, .int .i64 ((t + 1 : Nat) : Int)] w' fun e w'' => e = .returned (.bool true) ∧ Up w' w'') :
    Calls Tryz.prog 213 #[itm 3 0 nilS l, .int .i64 t] w fun e w' => e = .returned (.bool true) ∧ Up w w' := by
  have HF := hid hf
  have HSh := hid hsh
  obtain ⟨a, cap, rfl, hc1, hc2, _, hi⟩ := hr
  obtain ⟨q, hq⟩ : ∃ q, ess.length = q := ⟨_, rfl⟩
  have HQ := hid hq
  rw [hq] at hl hc1 hi
  rw [hq]
  have HI := hid hi
  have d0 : decide ((q : Int) > 1000) = false := by simp; omega
  have d1 : ((t : Int) == 8) = false := by simp; omega
  have d2 : IntKind.i64.wrap ((t : Int) + 1) = ((t + 1 : Nat) : Int) := by rw [IntWalk.i64_in _ (by omega)]; omega
  obtain ⟨g, hg⟩ : ∃ g, w.heap.size = g := ⟨_, rfl⟩
  have HG := hid hg
  clear hq hi hf hsh hg
  go_enter Tryz.func213, Tryz.ntmps213
  have HX : Hid (Blk (w.alloc (.cells #[.int .i64 3, .int .i64 0, nilS, .slice a q cap] 152)) g 152 #[.int .i64 3, .int .i64 0, nilS, .slice a q cap]) := hid (Blk.new HG.out rfl)
  have HU := hid ((Up.refl w).alloc (.cells #[.int .i64 3, .int .i64 0, nilS, .slice a q cap] 152))
  go_wp2_with fail
  rw [HG.out]
  go_loopw [5] (fun vi wr => ∃ i : Nat, i ≤ q ∧ vi = .int .i64 i ∧ Hid (Blk wr g 152 #[.int .i64 3, .int .i64 0, nilS, .slice a q cap]) ∧ Hid (Up w wr)) (fun vi _ => q - (intOf vi).toNat)
  case atStart => exact ⟨0, by omega, rfl, HX, HU⟩
  case round =>
    clear HX HU
    obtain ⟨i, hiq, rfl, HX, HU⟩ := hrel
    have q1 := HX.out.val (i := 3) rfl
    by_cases hlt : i < q
    · obtain ⟨b, off, k, n, vb, vl, rfl, hc, hr⟩ := HI.out i hlt
      obtain ⟨c0, c1, c2, c3⟩ := hc.up HU.out
      obtain ⟨⟨ba, bn, bc, rfl⟩, la, ln, lc, rfl⟩ := HSh.out _ _ _ _ _ hr
      have HC := hid (fun w' hU => HF.out k n _ _ _ hr w' hU)
      have z1 : (i : Int) < q := by omega
      have z2 : i * 4 + 4 ≤ cap * 4 := by omega
      clear hc hr
      go_wp2_with fail
      refine (HC.out _ HU.out).mono ?_
      rintro e w4 ⟨rfl, hU4⟩
      have HX4 := hid (HX.out.up hU4)
      have HU4 := hid (HU.out.trans hU4)
      clear hU4 HX HU q1 c0 c1 c2 c3
      go_wp2_with fail
      go_roundw
      case rel => exact ⟨i + 1, by omega, by go_num, HX4, HU4⟩
      case measure => simp [intOf]; omega
    · have z1 : ¬((i : Int) < q) := by omega
      go_wp2
      go_ret
      exact ⟨rfl, HU.out⟩

theorem rval_ok : ∀ (d : Nat) (t : Nat) (k n : Int) (b l : Value) (es : List Int) (w : World), ItmAt w d k n b l es → d + t ≤ 8 → Calls Tryz.prog 213 #[itm k n b l, .int .i64 t] w fun e w' => e = .returned (.bool true) ∧ Up w w'
  | 0, t, _, n, _, _, _, w, .inl ⟨rfl, rfl, rfl, rfl⟩, _ => rval_int n t w
  | 0, t, _, _, b, _, _, w, .inr ⟨rfl, rfl, rfl, bs, h1, h2, _, rfl⟩, _ => by obtain ⟨va, vc, rfl, _, _⟩ := h1.shape; exact rval_bytes _ _ _ t w
  | _ + 1, t, _, n, _, _, _, w, .inl (.inl ⟨rfl, rfl, rfl, rfl⟩), _ => rval_int n t w
  | _ + 1, t, _, _, b, _, _, w, .inl (.inr ⟨rfl, rfl, rfl, bs, h1, h2, _, rfl⟩), _ => by obtain ⟨va, vc, rfl, _, _⟩ := h1.shape; exact rval_bytes _ _ _ t w
  | d + 1, t, _, _, _, l, _, w, .inr ⟨rfl, rfl, rfl, ess, h4, h5, rfl⟩, hl => rval_list l ess _ t w h5 h4 (by omega) (fun _ _ _ _ _ h => itm_shape h) fun k n b l es h w' hU => rval_ok d (t + 1) k n b l es w' (h.up hU) (by omega)

theorem rValid7_ok (d : Nat) (k n : Int) (b l : Value) (es : List Int) (w : World) (h : ItmAt w d k n b l es) (hd : d ≤ 8) : Calls Tryz.prog 177 #[itm k n b l] w fun e w' => e = .returned (.bool true) ∧ Up w w' := by
  have M := hid (fun w' (hU : Up w w') => rval_ok d 0 k n b l es w' (h.up hU) (by omega))
  obtain ⟨⟨ba, bn, bc, rfl⟩, la, ln, lc, rfl⟩ := itm_shape h
  clear h hd
  go_enter Tryz.func177, Tryz.ntmps177
  go_wp2_with fail
  refine (M.out _ ((Up.refl w).alloc _)).mono ?_
  rintro e w2 ⟨rfl, hU2⟩
  go_wp2
  go_ret
  exact ⟨rfl, ((Up.refl w).alloc _).trans hU2⟩
end Go.Proofs.YtdlcmpbpdbpanaaGreatDoor
namespace Go.Proofs.YtdlcmpbpdbpanaaGreatDoor
open Go.RowKit Go.Sp
set_option maxHeartbeats 4000000
set_option maxRecDepth 20000

theorem seq_set {k : IntKind} {w : World} {v : Value} {xs : List Int} (h : SeqAt k w v xs) {a : Addr} (ha : ∀ b off n c, v = .slice (some ⟨b, off, none⟩) n c → a.block ≠ b) (x : Value) : SeqAt k (w.setCell a x) v xs := by
  obtain ⟨p, cap, rfl, hle, hmx, hn, h3⟩ := h
  refine ⟨p, cap, rfl, hle, hmx, hn, fun hne => ?_⟩
  obtain ⟨b, off, rfl, hc⟩ := h3 hne
  exact ⟨b, off, rfl, fun i hi => by rw [World.cell?_setCell_other (h := fun he => ha b off _ _ rfl (by rw [he]))]; exact hc i hi⟩

theorem r8New_ok (s : ByteArray) (w : World) (hs : Lab s) :
    Calls Tryz.prog 110 #[.string s] w fun e w' => e = .returned (drw (trNew (txt s)) 0) ∧ Up w w' := by
  have HTg := hid (fun w' (v' : Value) (hv' : SeqAt .u8 w' v' (txt s)) => rTagged_any trTag v' (txt s) w' (by decide) hv' (by rw [txt_length]; have := hs.max; omega) (txt_byt s))
  rw [trTag_txt] at HTg
  have HV : Hid (trNew (txt s) = tagB tagTr (txt s)) := hid rfl
  generalize trNew (txt s) = H at *
  rw [← HV.out] at HTg
  have d2 : s.size ≤ 24 := hs.max
  have hcv := fun w' => run_bytes_of_string (P := Tryz.prog) w' 9 51 5 s Tryz.underlying9 Tryz.underlying51 Tryz.underlying5
  clear hs HV
  obtain ⟨o, ho⟩ : ∃ o, w.heap.size = o := ⟨_, rfl⟩
  have HO := hid ho
  clear ho
  go_enter Tryz.func110, Tryz.ntmps110
  have hZ := Blk.new (w := w) (t := 135) (g := o) HO.out zero33
  have HZ := hid hZ
  clear hZ
  go_wp2_with fail
  refine (HTg.out _ _ (seq_text_at (g := w.heap.size + 1) s _ _ _ (by simp) cap_ge (cap_le (by omega)))).mono ?_
  rintro e w2 ⟨rfl, hU2⟩
  have HZ2 := hid (((HZ.out.alloc _).up (Up.refl _).drew).up hU2)
  have HU2 := hid (((((Up.refl w).alloc _).alloc _).drew).trans hU2)
  rw [HO.out]
  clear hU2 HZ hcv
  have l0 := HZ2.out.lt
  unfold hashV
  go_wp2_with (first
    | (refine wpList_buildTo rfl 135 _ rfl _ rfl (drwA H 0) (by kernel_rfl) ?_)
    | (refine wpList_store_rowTo rfl 135 _ _ rfl rfl o (drwA H 0) rfl rfl 135 (drwA zeroH 0) HZ2.out (sizeTr _ _) (by rw [drwA_size, drwA_size]) (drwA_one _ _) ?_))
  refine bodyPost_ret (v := .agg (drwA H 0)) (results_cell_row rfl _ _ o 135 _ (0, 0) _ (by rfl) (HZ2.out.row _) Tryz.underlying135 rfl (sizeTr _ _)) rfl ⟨rfl, HU2.out.setRow (by have := HO.out; omega) _⟩

theorem r8frame_none (h : Nat → Int) (c : Int) (s : ByteArray) (w : World) (hB : Byt h) (hs : Lab s) :
    Calls Tryz.prog 176 #[drw h c, .string s, nilS] w fun e w' => ∃ l', e = .returned (itm 3 0 nilS l') ∧ ItmAt w' 7 3 0 nilS l' (frameE h (txt s) []) ∧ Up w w' := by
  have HF : Hid (frameE h (txt s) [] = encList [encBytes (hList h), encBytes (txt s)]) := hid rfl
  generalize frameE h (txt s) [] = F at *
  have HBh := hid hB
  have hget := fun i (hi : i < 32) => drwA_get h c hi
  have HG := hid hget
  have d2 : s.size ≤ 24 := hs.max
  have hcv := fun w' => run_bytes_of_string (P := Tryz.prog) w' 9 51 5 s Tryz.underlying9 Tryz.underlying51 Tryz.underlying5
  unfold drw
  generalize drwA h c = cs at *
  clear hB hs hget
  obtain ⟨o, ho⟩ : ∃ o, w.heap.size = o := ⟨_, rfl⟩
  have HO := hid ho
  obtain ⟨o1, ho1⟩ : ∃ o1, o + 1 = o1 := ⟨_, rfl⟩
  have HO1 := hid ho1
  obtain ⟨o2, ho2⟩ : ∃ o2, o1 + 1 = o2 := ⟨_, rfl⟩
  have HO2 := hid ho2
  clear ho ho1 ho2
  go_enter Tryz.func176, Tryz.ntmps176
  go_wp2_with (at_builtin; refine stopHere ?_)
  unfold Hid
  generalize hW : World.alloc _ _ = w0
  have HU0 : Hid (Up w w0) := hid (by rw [← hW]; exact ((((Up.refl w).alloc _).alloc _).alloc _))
  have HS0 : Hid (Blk w0 o 135 cs) := hid (by rw [← hW]; exact (((Blk.new HO.out rfl).alloc _).alloc _))
  have HZ0 : Hid (Blk w0 o1 152 #[.int .i64 0, .int .i64 0, nilS, nilS]) := hid (by rw [← hW]; exact ((Blk.new (by have := HO.out; have := HO1.out; simp; omega) rfl).alloc _))
  have HE0 : Hid (OwnS 5 .u8 w0 o2 (.slice (some ⟨o2, 0, none⟩) 0 0) []) := hid (by rw [← hW]; exact own_empty (Blk.new (by have := HO.out; have := HO1.out; have := HO2.out; simp; omega) rfl) (Nat.le_refl _))
  have hz : o2 ≤ w0.heap.size := by rw [← hW]; have := HO.out; have := HO1.out; have := HO2.out; simp; omega
  rw [HO.out, HO1.out, HO2.out]
  clear hW
  refine wp_app infoU8 Tryz.underlying51 (by omega) rfl _ _ rfl o2 (v := .slice (some ⟨o2, 0, none⟩) 0 0) rfl rfl HE0.out (seedAt HS0.out HG.out) (by rw [hList_length]; simp) hz ?_
  intro v3 w3 hO3 hg3
  have hB3 := below_own HE0.out hg3 hz
  have HU3 := hid (HU0.out.own HE0.out hg3 (by have := HO.out; have := HO1.out; have := HO2.out; omega))
  have HZ3 := hid (HZ0.out.below hB3 (by have := HO2.out; omega))
  rw [List.nil_append] at hO3
  have HI3 := hid hO3.seq
  obtain ⟨a3, c3, rfl, _, _⟩ := hO3.shape
  have HIn : Hid (∀ b off n c, Value.slice a3 (hList h).length c3 = .slice (some ⟨b, off, none⟩) n c → o2 ≤ b ∧ b < w3.heap.size) := hid (fun b off n c he => by
    refine ⟨hO3.block b (by rw [he]; rfl), ?_⟩
    have hs := hO3.seq
    rw [he] at hs
    exact hs.inside (fun hn => by have := hList_length h; rw [hn] at this; cases this))
  clear hO3 hg3 hB3 HU0 HS0 HZ0 HE0 hz
  simp only [hList_length] at HI3 HIn ⊢
  obtain ⟨g, hg⟩ : ∃ g, w3.heap.size = g := ⟨_, rfl⟩
  have HGg := hid hg
  obtain ⟨g1, hg1⟩ : ∃ g1, g + 1 = g1 := ⟨_, rfl⟩
  have HG1 := hid hg1
  have l0 := HZ3.out.lt
  clear hg hg1
  go_wp2_with (at_builtin; refine stopHere ?_)
  unfold Hid
  clear hcv
  generalize hcp : grownCap _ _ _ _ = cp
  generalize hW : World.alloc _ _ = w4
  have hc0 : s.size ≤ cp := by rw [← hcp]; exact cap_ge
  have hc1 : cp ≤ 9223372036854775807 := by rw [← hcp]; exact cap_le (by omega)
  have HU4 : Hid (Up w w4.drew) := hid (by rw [← hW]; exact ((HU3.out.alloc _).alloc _).drew)
  have HZ4 : Hid (Blk w4.drew o1 152 #[.int .i64 0, .int .i64 0, nilS, nilS]) := hid (by rw [← hW]; exact ((HZ3.out.alloc _).alloc _).up (Up.refl _).drew)
  have HI4 : Hid (SeqAt .u8 w4.drew (.slice a3 32 c3) (hList h)) := hid (by rw [← hW]; exact HI3.out.up (((Up.refl _).alloc _).alloc _).drew)
  have HX4 : Hid (SeqAt .u8 w4.drew (.slice (some ⟨g, 0, none⟩) s.size cp) (txt s)) := hid (by
    rw [← hW]
    have h := seq_text w3 s cp 5 ((bytesRow s cp).size, (bytesRow s cp).size + 1) hc0 hc1
    rw [HGg.out] at h
    exact (h.up ((Up.refl _).alloc _)).up (Up.refl _).drew)
  have HQ4 : Hid (OwnQ 152 w4.drew g1 (.slice (some ⟨g1, 0, none⟩) 2 2) [⟨2, 0, .slice a3 32 c3, nilS⟩, ⟨2, 0, .slice (some ⟨g, 0, none⟩) s.size cp, nilS⟩]) := hid (by
    rw [← hW, HGg.out]
    exact (own_two (by have := HGg.out; have := HG1.out; simp; omega) (Nat.le_refl _)).up (Up.refl _).drew)
  rw [HGg.out, HG1.out]
  clear hcp hW HU3 HZ3 HI3
  have lg : o1 < g := by have := HGg.out; omega
  have hz : g1 ≤ w4.drew.heap.size := by have := OwnQ.inside HQ4.out g1 rfl; omega
  clear l0
  generalize w4.drew = w5 at *
  refine wp_appQ_none infoItm Tryz.underlying150 rfl _ _ rfl g1 rfl HQ4.out rfl ?_
  have HU5 := HU4
  have HZ5 := HZ4
  have HI5 := HI4
  have HX5 := HX4
  have HQ5 := HQ4
  clear HU4 HZ4 HI4 HX4 HQ4
  have z0 := HZ5.out.val (i := 0) rfl
  have z1 := HZ5.out.val (i := 1) rfl
  have z2 := HZ5.out.val (i := 2) rfl
  have z3 := HZ5.out.val (i := 3) rfl
  have y0 := HZ5.out.thawed 0
  have y1 := HZ5.out.thawed 1
  have y2 := HZ5.out.thawed 2
  have y3 := HZ5.out.thawed 3
  have hlw : w.heap.size ≤ o1 := by have := HO.out; have := HO1.out; omega
  have ho2 : o1 < o2 := by have := HO2.out; omega
  have hg1 : o1 < g1 := by have := HG1.out; omega
  go_wp2
  have HUf : Up w ((((w5.setCell ⟨o1, 0, none⟩ (.int .i64 3)).setCell ⟨o1, 1, none⟩ (.int .i64 0)).setCell ⟨o1, 2, none⟩ nilS).setCell ⟨o1, 3, none⟩ (.slice (some ⟨g1, 0, none⟩) 2 2)) := (((HU5.out.setCell hlw _).setCell hlw _).setCell hlw _).setCell hlw _
  refine bodyPost_ret (v := itm 3 0 nilS (.slice (some ⟨g1, 0, none⟩) 2 2)) (results_cell_row rfl _ _ o1 152 _ (0, 0) _ (by rfl) (blk_four HZ5.out _ _ _ _) Tryz.underlying152 rfl (by kernel_rfl)) rfl ⟨.slice (some ⟨g1, 0, none⟩) 2 2, rfl, ?_, HUf⟩
  rw [HF.out]
  have hne : ∀ b off n c, Value.slice (some ⟨g, 0, none⟩) s.size cp = .slice (some ⟨b, off, none⟩) n c → o1 ≠ b := fun b off n c he => by
    have h := (Value.slice.inj he).1
    injection h with h
    injection h with h _ _
    omega
  have hni : ∀ b off n c, Value.slice a3 32 c3 = .slice (some ⟨b, off, none⟩) n c → o1 ≠ b := fun b off n c he => by
    have := (HIn.out b off n c he).1
    omega
  have A1 := (seq_set (seq_set (seq_set (seq_set HI5.out (a := ⟨o1, 0, none⟩) hni (.int .i64 3)) (a := ⟨o1, 1, none⟩) hni (.int .i64 0)) (a := ⟨o1, 2, none⟩) hni (nilS)) (a := ⟨o1, 3, none⟩) hni (.slice (some ⟨g1, 0, none⟩) 2 2))
  have A2 := (seq_set (seq_set (seq_set (seq_set HX5.out (a := ⟨o1, 0, none⟩) hne (.int .i64 3)) (a := ⟨o1, 1, none⟩) hne (.int .i64 0)) (a := ⟨o1, 2, none⟩) hne (nilS)) (a := ⟨o1, 3, none⟩) hne (.slice (some ⟨g1, 0, none⟩) 2 2))
  have A3 := (((HQ5.out.set (a := ⟨o1, 0, none⟩) hg1 (.int .i64 3)).set (a := ⟨o1, 1, none⟩) hg1 (.int .i64 0)).set (a := ⟨o1, 2, none⟩) hg1 nilS).set (a := ⟨o1, 3, none⟩) hg1 (.slice (some ⟨g1, 0, none⟩) 2 2)
  exact itm_list (A3.row (QuadAt.app (QuadAt.one (itm_bytes A1 (by rw [hList_length]; omega) (hList_bytes HBh.out) 6)) (QuadAt.one (itm_bytes A2 (by rw [txt_length]; omega) (txt_byt s) 6)))) (by simp)

theorem r8frame_one (h : Nat → Int) (c : Int) (s : ByteArray) (g0 : Nat) (q : Quad) (es : List Int) (w : World) (hB : Byt h) (hs : Lab s) (hc : ItmCells w g0 0 q.k q.n q.b q.l) (hq : ItmAt w 6 q.k q.n q.b q.l es) :
    Calls Tryz.prog 176 #[drw h c, .string s, .slice (some ⟨g0, 0, none⟩) 1 1] w fun e w' => ∃ l', e = .returned (itm 3 0 nilS l') ∧ ItmAt w' 7 3 0 nilS l' (frameE h (txt s) [es]) ∧ Up w w' := by
  have HF : Hid (frameE h (txt s) [es] = encList [encBytes (hList h), encBytes (txt s), es]) := hid rfl
  generalize frameE h (txt s) [es] = F at *
  have HBh := hid hB
  have hget := fun i (hi : i < 32) => drwA_get h c hi
  have HG := hid hget
  have d2 : s.size ≤ 24 := hs.max
  have HC := hid hc
  have HQ := hid hq
  have hcv := fun w' => run_bytes_of_string (P := Tryz.prog) w' 9 51 5 s Tryz.underlying9 Tryz.underlying51 Tryz.underlying5
  unfold drw
  generalize drwA h c = cs at *
  clear hB hs hget hc hq
  obtain ⟨o, ho⟩ : ∃ o, w.heap.size = o := ⟨_, rfl⟩
  have HO := hid ho
  obtain ⟨o1, ho1⟩ : ∃ o1, o + 1 = o1 := ⟨_, rfl⟩
  have HO1 := hid ho1
  obtain ⟨o2, ho2⟩ : ∃ o2, o1 + 1 = o2 := ⟨_, rfl⟩
  have HO2 := hid ho2
  clear ho ho1 ho2
  go_enter Tryz.func176, Tryz.ntmps176
  go_wp2_with (at_builtin; refine stopHere ?_)
  unfold Hid
  generalize hW : World.alloc _ _ = w0
  have HU0 : Hid (Up w w0) := hid (by rw [← hW]; exact ((((Up.refl w).alloc _).alloc _).alloc _))
  have HS0 : Hid (Blk w0 o 135 cs) := hid (by rw [← hW]; exact (((Blk.new HO.out rfl).alloc _).alloc _))
  have HZ0 : Hid (Blk w0 o1 152 #[.int .i64 0, .int .i64 0, nilS, nilS]) := hid (by rw [← hW]; exact ((Blk.new (by have := HO.out; have := HO1.out; simp; omega) rfl).alloc _))
  have HE0 : Hid (OwnS 5 .u8 w0 o2 (.slice (some ⟨o2, 0, none⟩) 0 0) []) := hid (by rw [← hW]; exact own_empty (Blk.new (by have := HO.out; have := HO1.out; have := HO2.out; simp; omega) rfl) (Nat.le_refl _))
  have hz : o2 ≤ w0.heap.size := by rw [← hW]; have := HO.out; have := HO1.out; have := HO2.out; simp; omega
  rw [HO.out, HO1.out, HO2.out]
  clear hW
  refine wp_app infoU8 Tryz.underlying51 (by omega) rfl _ _ rfl o2 (v := .slice (some ⟨o2, 0, none⟩) 0 0) rfl rfl HE0.out (seedAt HS0.out HG.out) (by rw [hList_length]; simp) hz ?_
  intro v3 w3 hO3 hg3
  have hB3 := below_own HE0.out hg3 hz
  have HU3 := hid (HU0.out.own HE0.out hg3 (by have := HO.out; have := HO1.out; have := HO2.out; omega))
  have HZ3 := hid (HZ0.out.below hB3 (by have := HO2.out; omega))
  rw [List.nil_append] at hO3
  have HI3 := hid hO3.seq
  obtain ⟨a3, c3, rfl, _, _⟩ := hO3.shape
  have HIn : Hid (∀ b off n c, Value.slice a3 (hList h).length c3 = .slice (some ⟨b, off, none⟩) n c → o2 ≤ b ∧ b < w3.heap.size) := hid (fun b off n c he => by
    refine ⟨hO3.block b (by rw [he]; rfl), ?_⟩
    have hs := hO3.seq
    rw [he] at hs
    exact hs.inside (fun hn => by have := hList_length h; rw [hn] at this; cases this))
  clear hO3 hg3 hB3 HU0 HS0 HZ0 HE0 hz
  simp only [hList_length] at HI3 HIn ⊢
  obtain ⟨g, hg⟩ : ∃ g, w3.heap.size = g := ⟨_, rfl⟩
  have HGg := hid hg
  obtain ⟨g1, hg1⟩ : ∃ g1, g + 1 = g1 := ⟨_, rfl⟩
  have HG1 := hid hg1
  have l0 := HZ3.out.lt
  clear hg hg1
  go_wp2_with (at_builtin; refine stopHere ?_)
  unfold Hid
  clear hcv
  generalize hcp : grownCap _ _ _ _ = cp
  generalize hW : World.alloc _ _ = w4
  have hc0 : s.size ≤ cp := by rw [← hcp]; exact cap_ge
  have hc1 : cp ≤ 9223372036854775807 := by rw [← hcp]; exact cap_le (by omega)
  have HU4 : Hid (Up w w4.drew) := hid (by rw [← hW]; exact ((HU3.out.alloc _).alloc _).drew)
  have HZ4 : Hid (Blk w4.drew o1 152 #[.int .i64 0, .int .i64 0, nilS, nilS]) := hid (by rw [← hW]; exact ((HZ3.out.alloc _).alloc _).up (Up.refl _).drew)
  have HI4 : Hid (SeqAt .u8 w4.drew (.slice a3 32 c3) (hList h)) := hid (by rw [← hW]; exact HI3.out.up (((Up.refl _).alloc _).alloc _).drew)
  have HX4 : Hid (SeqAt .u8 w4.drew (.slice (some ⟨g, 0, none⟩) s.size cp) (txt s)) := hid (by
    rw [← hW]
    have h := seq_text w3 s cp 5 ((bytesRow s cp).size, (bytesRow s cp).size + 1) hc0 hc1
    rw [HGg.out] at h
    exact (h.up ((Up.refl _).alloc _)).up (Up.refl _).drew)
  have HQ4 : Hid (OwnQ 152 w4.drew g1 (.slice (some ⟨g1, 0, none⟩) 2 2) [⟨2, 0, .slice a3 32 c3, nilS⟩, ⟨2, 0, .slice (some ⟨g, 0, none⟩) s.size cp, nilS⟩]) := hid (by
    rw [← hW, HGg.out]
    exact (own_two (by have := HGg.out; have := HG1.out; simp; omega) (Nat.le_refl _)).up (Up.refl _).drew)
  rw [HGg.out, HG1.out]
  clear hcp hW HU3 HZ3 HI3
  have lg : o1 < g := by have := HGg.out; omega
  have hz : g1 ≤ w4.drew.heap.size := by have := OwnQ.inside HQ4.out g1 rfl; omega
  clear l0
  generalize w4.drew = w5 at *
  refine wp_appQ infoItm rfl Tryz.underlying150 (by omega) rfl _ _ rfl g1 rfl HQ4.out g0 1 (news := [q]) rfl (fun j hj => by
    obtain rfl : j = 0 := by simp at hj; omega
    exact HC.out.up HU4.out) (fun j hj => by
    obtain rfl : j = 0 := by simp at hj; omega
    exact HQ.out.one) (by simp) hz ?_
  intro v6 w6 hO6 hg6
  have hB6 := HQ4.out.below hg6 hz
  have HU5 := hid (up_below HU4.out hB6 (by have := HO.out; have := HO1.out; have := HG1.out; omega))
  have HZ5 := hid (HZ4.out.below hB6 (by have := HG1.out; omega))
  have HI5 := hid (HI4.out.below hB6 (fun b off n c he => by have := (HIn.out b off n c he).2; have := HGg.out; have := HG1.out; omega))
  have HX5 := hid (HX4.out.below hB6 (fun b off n c he => by
    have h := (Value.slice.inj he).1
    injection h with h
    injection h with h _ _
    have := HG1.out
    omega))
  obtain ⟨a6, c6, rfl⟩ := hO6.shape
  change OwnQ _ _ _ (.slice a6 3 c6) _ at hO6
  change wpList _ _ _ _ (Act.put _ _ (.slice a6 3 c6)) _
  have HQ5 := hid hO6
  clear HU4 HZ4 HI4 HX4 HQ4 hO6 hg6 hB6
  have z0 := HZ5.out.val (i := 0) rfl
  have z1 := HZ5.out.val (i := 1) rfl
  have z2 := HZ5.out.val (i := 2) rfl
  have z3 := HZ5.out.val (i := 3) rfl
  have y0 := HZ5.out.thawed 0
  have y1 := HZ5.out.thawed 1
  have y2 := HZ5.out.thawed 2
  have y3 := HZ5.out.thawed 3
  have hlw : w.heap.size ≤ o1 := by have := HO.out; have := HO1.out; omega
  have ho2 : o1 < o2 := by have := HO2.out; omega
  have hg1 : o1 < g1 := by have := HG1.out; omega
  go_wp2
  have HUf : Up w ((((w6.setCell ⟨o1, 0, none⟩ (.int .i64 3)).setCell ⟨o1, 1, none⟩ (.int .i64 0)).setCell ⟨o1, 2, none⟩ nilS).setCell ⟨o1, 3, none⟩ (.slice a6 3 c6)) := (((HU5.out.setCell hlw _).setCell hlw _).setCell hlw _).setCell hlw _
  refine bodyPost_ret (v := itm 3 0 nilS (.slice a6 3 c6)) (results_cell_row rfl _ _ o1 152 _ (0, 0) _ (by rfl) (blk_four HZ5.out _ _ _ _) Tryz.underlying152 rfl (by kernel_rfl)) rfl ⟨.slice a6 3 c6, rfl, ?_, HUf⟩
  rw [HF.out]
  have hne : ∀ b off n c, Value.slice (some ⟨g, 0, none⟩) s.size cp = .slice (some ⟨b, off, none⟩) n c → o1 ≠ b := fun b off n c he => by
    have h := (Value.slice.inj he).1
    injection h with h
    injection h with h _ _
    omega
  have hni : ∀ b off n c, Value.slice a3 32 c3 = .slice (some ⟨b, off, none⟩) n c → o1 ≠ b := fun b off n c he => by
    have := (HIn.out b off n c he).1
    omega
  have A1 := (seq_set (seq_set (seq_set (seq_set HI5.out (a := ⟨o1, 0, none⟩) hni (.int .i64 3)) (a := ⟨o1, 1, none⟩) hni (.int .i64 0)) (a := ⟨o1, 2, none⟩) hni (nilS)) (a := ⟨o1, 3, none⟩) hni (.slice a6 3 c6))
  have A2 := (seq_set (seq_set (seq_set (seq_set HX5.out (a := ⟨o1, 0, none⟩) hne (.int .i64 3)) (a := ⟨o1, 1, none⟩) hne (.int .i64 0)) (a := ⟨o1, 2, none⟩) hne (nilS)) (a := ⟨o1, 3, none⟩) hne (.slice a6 3 c6))
  have A3 := (((HQ5.out.set (a := ⟨o1, 0, none⟩) hg1 (.int .i64 3)).set (a := ⟨o1, 1, none⟩) hg1 (.int .i64 0)).set (a := ⟨o1, 2, none⟩) hg1 nilS).set (a := ⟨o1, 3, none⟩) hg1 (.slice a6 3 c6)
  exact itm_list (A3.row (QuadAt.app (QuadAt.one (itm_bytes A1 (by rw [hList_length]; omega) (hList_bytes HBh.out) 6)) (QuadAt.app (QuadAt.one (itm_bytes A2 (by rw [txt_length]; omega) (txt_byt s) 6)) (QuadAt.one (HQ.out.up HUf))))) (by simp)

end Go.Proofs.YtdlcmpbpdbpanaaGreatDoor
