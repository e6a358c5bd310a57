/- Unblind returns the specified signature, or the specified errors, and Check says which views are right: specielaw23.BlindUnblinds returns true. For every input; the tables of packages math/bits, prime and digest as the program's text lays them. The closed facts of the row of specielaw23.BlindUnblinds, one by one: all at once they outgrow the memory. BlindUnblinds: the walk. -/
import Derived.Test.YtdlcmpbpdbpanaaGreatDoorMB27
import Derived.Test.YtdlcmpbpdbpanaaGreatDoorRows
import Derived.Test.YtdlcmpbpdbpanaaGreatDoorMB31
import Derived.JoinedCond
import Derived.KernelRfl
import Derived.Lay
namespace Go.Proofs.YtdlcmpbpdbpanaaGreatDoor
open Go.RowKit Go.Sp
set_option maxHeartbeats 4000000
set_option maxRecDepth 20000

theorem unbE_inv {P Q G y r al be cm ch s : Int} (hg : gvB P Q G = false) : unbE P Q G y r al be cm ch s = 1 := by simp [unbE, ubE, hg]
theorem unbE_two {P Q G y r al be cm ch s : Int} (hg : gvB P Q G = true) (h : (elB P Q y && (elB P Q r && (usrB P Q al be cm ch && exB Q s))) = false) : unbE P Q G y r al be cm ch s = 2 := by
  have e : ([y, r, cm].all (conB P Q G) && [s, al, be, ch].all (exB Q)) = (elB P Q y && (elB P Q r && (usrB P Q al be cm ch && exB Q s))) := by
    simp only [usrB, conB, hg, List.all_cons, List.all_nil, Bool.true_and, Bool.and_true]
    cases elB P Q y <;> cases elB P Q r <;> cases elB P Q cm <;> cases exB Q s <;> cases exB Q al <;> cases exB Q be <;> cases exB Q ch <;> rfl
  rw [h] at e
  unfold unbE
  rw [hg]
  revert e
  cases [y, r, cm].all (conB P Q G) <;> cases [s, al, be, ch].all (exB Q) <;> simp [ubE]
theorem unbE_eleven {P Q G y r al be cm ch s : Int} (hg : gvB P Q G = true) (hy : elB P Q y = true) (hr : elB P Q r = true) (hu : usrB P Q al be cm ch = true) (hs : exB Q s = true) : unbE P Q G y r al be cm ch s = if (cm == bcm P Q G y r al be && rgtB P Q G y r ((ch + be) % Q) s) = true then 0 else 11 := by
  simp only [usrB, Bool.and_eq_true] at hu
  obtain ⟨h1, h2, h3, h4⟩ := hu
  unfold unbE
  simp only [conB, hg, hy, hr, h1, h2, h3, h4, hs, List.all_cons, List.all_nil, Bool.and_true]
  cases (cm == bcm P Q G y r al be) <;> cases rgtB P Q G y r ((ch + be) % Q) s <;> rfl

theorem BlindUnblinds_walk (P Q G y r al be cm ch s vr vc vs : Int) (w : World) (hP : -9223372036854775808 ≤ P) (hQ : Q ≤ 9223372036854775807) (hT : Tab w) (hS : TabS w) :
    Calls Tryz.prog 9 #[grp P Q G, .int .i64 y, .int .i64 r, .agg #[.int .i64 al, .int .i64 be, .int .i64 cm, .int .i64 ch], .int .i64 s, .agg #[.int .i64 vr, .int .i64 vc, .int .i64 vs]] w fun e w' => e = .returned (.bool true) ∧ Up w w' := by
  have HT := hid hT
  have HS := hid hS
  have M1 := hid (fun w' (hU : Up w w') => bliUnblind_any P Q G y r al be cm ch s w' hP hQ (hT.up hU))
  have M2 := hid (fun w' => rValid_any P Q G w' hP hQ)
  have M3 := hid (fun w' (hU : Up w w') => bliCheck_any P Q G y vr vc vs w' hP hQ (hT.up hU))
  have M4 := hid (fun w' (hg : gvB P Q G = true) => r23Check_ok P Q G y vr vc vs w' hQ hg)
  have HC : Hid (gvB P Q G = false → chkB P Q G y vr vc vs = false) := hid (fun h => by simp [chkB, h])
  generalize chkB P Q G y vr vc vs = CB at *
  have HE1 := hid (fun h => unbE_inv (P := P) (Q := Q) (G := G) (y := y) (r := r) (al := al) (be := be) (cm := cm) (ch := ch) (s := s) h)
  have HE2 := hid (fun hg h => unbE_two (P := P) (Q := Q) (G := G) (y := y) (r := r) (al := al) (be := be) (cm := cm) (ch := ch) (s := s) hg h)
  have HE3 := hid (fun hg h1 h2 h3 h4 => unbE_eleven (P := P) (Q := Q) (G := G) (y := y) (r := r) (al := al) (be := be) (cm := cm) (ch := ch) (s := s) hg h1 h2 h3 h4)
  generalize unbE P Q G y r al be cm ch s = E at *
  obtain ⟨o, ho⟩ : ∃ o, w.heap.size = o := ⟨_, rfl⟩
  have HO := hid ho
  obtain ⟨o1, ho1⟩ : ∃ o1, o + 1 = o1 := ⟨_, rfl⟩
  have HO1 := hid ho1
  obtain ⟨o2, ho2⟩ : ∃ o2, o1 + 1 = o2 := ⟨_, rfl⟩
  have HO2 := hid ho2
  clear hT hS ho ho1 ho2
  go_enter Tryz.func9, Tryz.ntmps9
  go_wp2_with fail
  refine (awake23 _ (HT.out.up ((((Up.refl w).alloc _).alloc _).alloc _)) (HS.out.up ((((Up.refl w).alloc _).alloc _).alloc _))).mono ?_
  rintro e w1 ⟨rfl, hU1⟩
  have HA1 := hid (((nums_three (w := w) (t := 23) HO.out).up (((Up.refl _).alloc _).alloc _)).up hU1)
  have HB1 := hid ((((Blk.new (g := o1) (t := 71) (cs := #[.int .i64 al, .int .i64 be, .int .i64 cm, .int .i64 ch]) (by have := HO.out; have := HO1.out; have := HO2.out; simp; omega) rfl).up ((Up.refl _).alloc _))).up hU1)
  have HV1 := hid (((nums_three (r := o2) (t := 80) (by have := HO.out; have := HO1.out; have := HO2.out; simp; omega))).up hU1)
  have HU1 := hid (((((Up.refl w).alloc _).alloc _).alloc _).trans hU1)
  clear hU1
  rw [HO.out, HO1.out, HO2.out]
  obtain ⟨c0, c1, c2⟩ := HA1.out
  have u0 := HB1.out.val (i := 0) rfl
  have u1 := HB1.out.val (i := 1) rfl
  have u2 := HB1.out.val (i := 2) rfl
  have u3 := HB1.out.val (i := 3) rfl
  obtain ⟨v0, v1, v2⟩ := HV1.out
  go_wp2_with fail
  refine (M1.out _ (HU1.out)).mono ?_
  rintro e w2 ⟨rfl, hU2⟩
  have HA2 := hid (HA1.out.up hU2)
  have HB2 := hid (HB1.out.up hU2)
  have HV2 := hid (HV1.out.up hU2)
  have HU2 := hid (HU1.out.trans hU2)
  clear hU2 HA1 HB1 HV1 HU1 c0 c1 c2 u0 u1 u2 u3 v0 v1 v2
  obtain ⟨c0, c1, c2⟩ := HA2.out
  have u0 := HB2.out.val (i := 0) rfl
  have u1 := HB2.out.val (i := 1) rfl
  have u2 := HB2.out.val (i := 2) rfl
  have u3 := HB2.out.val (i := 3) rfl
  obtain ⟨v0, v1, v2⟩ := HV2.out
  obtain ⟨X1, hX1⟩ : ∃ X, orZ E ch = X := ⟨_, rfl⟩
  obtain ⟨X2, hX2⟩ : ∃ X, orZ E ((s + al) % Q) = X := ⟨_, rfl⟩
  rw [hX1, hX2]
  have HX1 := hid hX1
  have HX2 := hid hX2
  clear hX1 hX2
  obtain ⟨ox, hox⟩ : ∃ ox, w2.heap.size = ox := ⟨_, rfl⟩
  have lox : o < ox := by rw [← hox]; exact cell_lt c0
  have lox1 : o1 < ox := by rw [← hox]; exact cell_lt u0
  have lox2 : o2 < ox := by rw [← hox]; exact cell_lt v0
  go_wp2_with fail
  refine (M2.out _).mono ?_
  rintro e w3 ⟨rfl, hU3⟩
  have HX3 := hid ((nums_two (w := w2) (r := ox) (t := 67) (x := X1) (y := X2) hox).up hU3)
  have hU3 := ((Up.refl w2).alloc _).trans hU3
  have HA3 := hid (HA2.out.up hU3)
  have HB3 := hid (HB2.out.up hU3)
  have HV3 := hid (HV2.out.up hU3)
  have HU3 := hid (HU2.out.trans hU3)
  clear hU3 HA2 HB2 HV2 HU2 c0 c1 c2 u0 u1 u2 u3 v0 v1 v2
  try rw [hox]
  clear hox
  obtain ⟨c0, c1, c2⟩ := HA3.out
  have u0 := HB3.out.val (i := 0) rfl
  have u1 := HB3.out.val (i := 1) rfl
  have u2 := HB3.out.val (i := 2) rfl
  have u3 := HB3.out.val (i := 3) rfl
  obtain ⟨v0, v1, v2⟩ := HV3.out
  obtain ⟨x0, x1⟩ := HX3.out
  by_cases h : gvB P Q G = true
  case neg =>
    have h' : gvB P Q G = false := by simpa using h
    have hE := HE1.out h'
    have hx1 : X1 = 0 := by rw [← HX1.out, hE]; rfl
    have hx2 : X2 = 0 := by rw [← HX2.out, hE]; rfl
    subst hE hx1 hx2
    have hc := HC.out h'
    subst hc
    rw [h']
    clear h h' HE1 HE2 HE3 HX1 HX2
    go_wp2_with fail
    refine (M3.out _ (HU3.out)).mono ?_
    rintro e w4 ⟨rfl, hU4⟩
    have HA4 := hid (HA3.out.up hU4)
    have HB4 := hid (HB3.out.up hU4)
    have HV4 := hid (HV3.out.up hU4)
    have HX4 := hid (HX3.out.up hU4)
    have HU4 := hid (HU3.out.trans hU4)
    clear hU4 HA3 HB3 HV3 HX3 HU3 c0 c1 c2 u0 u1 u2 u3 v0 v1 v2 x0 x1
    go_wp2
    go_ret
    exact ⟨rfl, HU4.out⟩
  have hg := h
  rw [h]
  have N4 := hid (fun w' => M4.out w' h)
  have g := gv_iff.1 hg
  have g1 := g.P61
  have g3 := g.Q3
  have g4 := g.QP
  have Hg := hid hg
  clear h hg g M4 HC HE1
  have eC : (CB != CB) = false := by simp
  have fc0 := cellF c0
  have fc1 := cellF c1
  have fc2 := cellF c2
  have fu0 := cellF u0
  have fu1 := cellF u1
  have fu2 := cellF u2
  have fu3 := cellF u3
  have fv0 := cellF v0
  have fv1 := cellF v1
  have fv2 := cellF v2
  have fx0 := cellF x0
  have fx1 := cellF x1
  clear c0 c1 c2 u0 u1 u2 u3 v0 v1 v2 x0 x1
  go_wp2_with fail
  refine wp_region_up (by kernel_rfl) (by kernel_rfl) ?_
  repeat (go_big_quiet_step ((first
      | (go_at_call 52; exact Calls.up_of (M3.out _ (HU3.out.trans (UpFrom.up _))))
      | (go_at_call 53; exact Calls.up_of (N4.out _)))))
  refine wpQuiet_nil ?_
  rintro w4 ⟨⟨_, hU4⟩, rfl⟩
  try dsimp only
  have HA4 := hid (HA3.out.up hU4)
  have HB4 := hid (HB3.out.up hU4)
  have HV4 := hid (HV3.out.up hU4)
  have HX4 := hid (HX3.out.up hU4)
  have HU4 := hid (HU3.out.trans hU4)
  clear hU4 HA3 HB3 HV3 HX3 HU3 fc0 fc1 fc2 fu0 fu1 fu2 fu3 fv0 fv1 fv2 fx0 fx1
  obtain ⟨c0, c1, c2⟩ := HA4.out
  have u0 := HB4.out.val (i := 0) rfl
  have u1 := HB4.out.val (i := 1) rfl
  have u2 := HB4.out.val (i := 2) rfl
  have u3 := HB4.out.val (i := 3) rfl
  obtain ⟨v0, v1, v2⟩ := HV4.out
  obtain ⟨x0, x1⟩ := HX4.out
  go_wp2_with fail
  refine (rMember_any P Q G y _ g1 (by omega) hQ).mono ?_
  rintro e w5 ⟨rfl, hU5⟩
  have HA5 := hid (HA4.out.up hU5)
  have HB5 := hid (HB4.out.up hU5)
  have HV5 := hid (HV4.out.up hU5)
  have HX5 := hid (HX4.out.up hU5)
  have HU5 := hid (HU4.out.trans hU5)
  clear hU5 HA4 HB4 HV4 HX4 HU4 c0 c1 c2 u0 u1 u2 u3 v0 v1 v2 x0 x1
  obtain ⟨c0, c1, c2⟩ := HA5.out
  have u0 := HB5.out.val (i := 0) rfl
  have u1 := HB5.out.val (i := 1) rfl
  have u2 := HB5.out.val (i := 2) rfl
  have u3 := HB5.out.val (i := 3) rfl
  obtain ⟨v0, v1, v2⟩ := HV5.out
  obtain ⟨x0, x1⟩ := HX5.out
  by_cases h : elB P Q y = true
  case neg =>
    have h' : elB P Q y = false := by simpa using h
    have hE := HE2.out Hg.out (by simp [h'])
    have hx1 : X1 = 0 := by rw [← HX1.out, hE]; rfl
    have hx2 : X2 = 0 := by rw [← HX2.out, hE]; rfl
    subst hE hx1 hx2
    rw [h']
    clear h h' HE2 HE3 HX1 HX2
    go_wp2
    go_ret
    exact ⟨rfl, HU5.out⟩
  have Hy := hid h
  rw [h]
  clear h
  go_wp2_with fail
  refine (rMember_any P Q G r _ g1 (by omega) hQ).mono ?_
  rintro e w6 ⟨rfl, hU6⟩
  have HA6 := hid (HA5.out.up hU6)
  have HB6 := hid (HB5.out.up hU6)
  have HV6 := hid (HV5.out.up hU6)
  have HX6 := hid (HX5.out.up hU6)
  have HU6 := hid (HU5.out.trans hU6)
  clear hU6 HA5 HB5 HV5 HX5 HU5 c0 c1 c2 u0 u1 u2 u3 v0 v1 v2 x0 x1
  obtain ⟨c0, c1, c2⟩ := HA6.out
  have u0 := HB6.out.val (i := 0) rfl
  have u1 := HB6.out.val (i := 1) rfl
  have u2 := HB6.out.val (i := 2) rfl
  have u3 := HB6.out.val (i := 3) rfl
  obtain ⟨v0, v1, v2⟩ := HV6.out
  obtain ⟨x0, x1⟩ := HX6.out
  by_cases h : elB P Q r = true
  case neg =>
    have h' : elB P Q r = false := by simpa using h
    have hE := HE2.out Hg.out (by simp [h'])
    have hx1 : X1 = 0 := by rw [← HX1.out, hE]; rfl
    have hx2 : X2 = 0 := by rw [← HX2.out, hE]; rfl
    subst hE hx1 hx2
    rw [h']
    clear h h' HE2 HE3 HX1 HX2
    go_wp2
    go_ret
    exact ⟨rfl, HU6.out⟩
  have Hr := hid h
  rw [h]
  clear h
  go_wp2_with fail
  refine (r23User_any P Q G al be cm ch _ g1 (by omega) hQ).mono ?_
  rintro e w7 ⟨rfl, hU7⟩
  have HA7 := hid (HA6.out.up hU7)
  have HB7 := hid (HB6.out.up hU7)
  have HV7 := hid (HV6.out.up hU7)
  have HX7 := hid (HX6.out.up hU7)
  have HU7 := hid (HU6.out.trans hU7)
  clear hU7 HA6 HB6 HV6 HX6 HU6 c0 c1 c2 u0 u1 u2 u3 v0 v1 v2 x0 x1
  obtain ⟨c0, c1, c2⟩ := HA7.out
  have u0 := HB7.out.val (i := 0) rfl
  have u1 := HB7.out.val (i := 1) rfl
  have u2 := HB7.out.val (i := 2) rfl
  have u3 := HB7.out.val (i := 3) rfl
  obtain ⟨v0, v1, v2⟩ := HV7.out
  obtain ⟨x0, x1⟩ := HX7.out
  by_cases h : usrB P Q al be cm ch = true
  case neg =>
    have h' : usrB P Q al be cm ch = false := by simpa using h
    have hE := HE2.out Hg.out (by simp [h'])
    have hx1 : X1 = 0 := by rw [← HX1.out, hE]; rfl
    have hx2 : X2 = 0 := by rw [← HX2.out, hE]; rfl
    subst hE hx1 hx2
    rw [h']
    clear h h' HE2 HE3 HX1 HX2
    go_wp2
    go_ret
    exact ⟨rfl, HU7.out⟩
  have Hus := hid h
  rw [h]
  clear h
  go_wp2_with fail
  refine (r23Scalar_any P Q G s _).mono ?_
  rintro e w8 ⟨rfl, hU8⟩
  have HA8 := hid (HA7.out.up hU8)
  have HB8 := hid (HB7.out.up hU8)
  have HV8 := hid (HV7.out.up hU8)
  have HX8 := hid (HX7.out.up hU8)
  have HU8 := hid (HU7.out.trans hU8)
  clear hU8 HA7 HB7 HV7 HX7 HU7 c0 c1 c2 u0 u1 u2 u3 v0 v1 v2 x0 x1
  obtain ⟨c0, c1, c2⟩ := HA8.out
  have u0 := HB8.out.val (i := 0) rfl
  have u1 := HB8.out.val (i := 1) rfl
  have u2 := HB8.out.val (i := 2) rfl
  have u3 := HB8.out.val (i := 3) rfl
  obtain ⟨v0, v1, v2⟩ := HV8.out
  obtain ⟨x0, x1⟩ := HX8.out
  by_cases h : exB Q s = true
  case neg =>
    have h' : exB Q s = false := by simpa using h
    have hE := HE2.out Hg.out (by simp [h'])
    have hx1 : X1 = 0 := by rw [← HX1.out, hE]; rfl
    have hx2 : X2 = 0 := by rw [← HX2.out, hE]; rfl
    subst hE hx1 hx2
    rw [h']
    clear h h' HE2 HE3 HX1 HX2
    go_wp2
    go_ret
    exact ⟨rfl, HU8.out⟩
  have Hs := hid h
  rw [h]
  clear h
  obtain ⟨ha, hb, hch, hcm⟩ : exB Q al = true ∧ exB Q be = true ∧ exB Q ch = true ∧ elB P Q cm = true := by
    have := Hus.out
    simpa [usrB] using this
  have hE3 := HE3.out Hg.out Hy.out Hr.out Hus.out Hs.out
  have M5 := hid (fun w' => r23Commit_ok P Q G y r al be w' Hg.out Hy.out Hr.out ha hb)
  have M6 := hid (fun w' => r23Fits_ok P Q G y r ((ch + be) % Q) s w' Hg.out Hy.out Hr.out (ex_mod (gv_q Hg.out).1) Hs.out)
  obtain ⟨a0, a1⟩ := exB_iff.1 ha
  obtain ⟨b0, b1⟩ := exB_iff.1 hb
  obtain ⟨d0, d1⟩ := exB_iff.1 hch
  obtain ⟨s0', s1'⟩ := exB_iff.1 Hs.out
  generalize rgtB P Q G y r ((ch + be) % Q) s = RB at *
  generalize bcm P Q G y r al be = K at *
  have hw1 : IntKind.i64.wrap (ch + be) = ch + be := by rw [IntKind.wrap_i64]; omega
  have hw2 : IntKind.i64.wrap (s + al) = s + al := by rw [IntKind.wrap_i64]; omega
  have q0 : (Q == 0) = false := by simp; omega
  have t1 : (ch + be).tmod Q = (ch + be) % Q := Int.tmod_eq_emod_of_nonneg (by omega)
  have t2 : (s + al).tmod Q = (s + al) % Q := Int.tmod_eq_emod_of_nonneg (by omega)
  clear HE2 HE3 ha hb hch hcm
  by_cases hk : cm = K
  case neg =>
    have hE : E = 11 := by rw [hE3, if_neg (by simp [hk])]
    have dk : (cm != K) = true := by simpa using hk
    have hx1 : X1 = 0 := by rw [← HX1.out, hE]; rfl
    have hx2 : X2 = 0 := by rw [← HX2.out, hE]; rfl
    subst hE hx1 hx2
    clear hk hE3 HX1 HX2
    have fc0 := cellF c0
    have fc1 := cellF c1
    have fc2 := cellF c2
    have fu0 := cellF u0
    have fu1 := cellF u1
    have fu2 := cellF u2
    have fu3 := cellF u3
    have fv0 := cellF v0
    have fv1 := cellF v1
    have fv2 := cellF v2
    have fx0 := cellF x0
    have fx1 := cellF x1
    clear c0 c1 c2 u0 u1 u2 u3 v0 v1 v2 x0 x1
    go_wp2_with fail
    refine wp_region_up (by kernel_rfl) (by kernel_rfl) ?_
    repeat (go_big_quiet_step ((first
        | (go_at_call 55; exact Calls.up_of (M5.out _)))))
    refine wpQuiet_nil ?_
    rintro w9 ⟨⟨_, hU9⟩, rfl⟩
    try dsimp only
    have HA9 := hid (HA8.out.up hU9)
    have HB9 := hid (HB8.out.up hU9)
    have HV9 := hid (HV8.out.up hU9)
    have HX9 := hid (HX8.out.up hU9)
    have HU9 := hid (HU8.out.trans hU9)
    clear hU9 HA8 HB8 HV8 HX8 HU8 fc0 fc1 fc2 fu0 fu1 fu2 fu3 fv0 fv1 fv2 fx0 fx1
    obtain ⟨c0, c1, c2⟩ := HA9.out
    have u0 := HB9.out.val (i := 0) rfl
    have u1 := HB9.out.val (i := 1) rfl
    have u2 := HB9.out.val (i := 2) rfl
    have u3 := HB9.out.val (i := 3) rfl
    obtain ⟨v0, v1, v2⟩ := HV9.out
    obtain ⟨x0, x1⟩ := HX9.out
    go_wp2
    go_ret
    exact ⟨rfl, HU9.out⟩
  have dk : (cm != K) = false := by simpa using hk
  cases RB
  case false =>
    have hE : E = 11 := by rw [hE3]; exact if_neg (by simp)
    have hx1 : X1 = 0 := by rw [← HX1.out, hE]; rfl
    have hx2 : X2 = 0 := by rw [← HX2.out, hE]; rfl
    subst hE hx1 hx2
    clear hk hE3 HX1 HX2
    have fc0 := cellF c0
    have fc1 := cellF c1
    have fc2 := cellF c2
    have fu0 := cellF u0
    have fu1 := cellF u1
    have fu2 := cellF u2
    have fu3 := cellF u3
    have fv0 := cellF v0
    have fv1 := cellF v1
    have fv2 := cellF v2
    have fx0 := cellF x0
    have fx1 := cellF x1
    clear c0 c1 c2 u0 u1 u2 u3 v0 v1 v2 x0 x1
    go_wp2_with fail
    refine wp_region_up (by kernel_rfl) (by kernel_rfl) ?_
    repeat (go_big_quiet_step ((first
        | (go_at_call 55; exact Calls.up_of (M5.out _))
        | (go_at_call 56; exact Calls.up_of (M6.out _)))))
    refine wpQuiet_nil ?_
    rintro w9 ⟨⟨_, hU9⟩, rfl⟩
    try dsimp only
    have HA9 := hid (HA8.out.up hU9)
    have HB9 := hid (HB8.out.up hU9)
    have HV9 := hid (HV8.out.up hU9)
    have HX9 := hid (HX8.out.up hU9)
    have HU9 := hid (HU8.out.trans hU9)
    clear hU9 HA8 HB8 HV8 HX8 HU8 fc0 fc1 fc2 fu0 fu1 fu2 fu3 fv0 fv1 fv2 fx0 fx1
    obtain ⟨c0, c1, c2⟩ := HA9.out
    have u0 := HB9.out.val (i := 0) rfl
    have u1 := HB9.out.val (i := 1) rfl
    have u2 := HB9.out.val (i := 2) rfl
    have u3 := HB9.out.val (i := 3) rfl
    obtain ⟨v0, v1, v2⟩ := HV9.out
    obtain ⟨x0, x1⟩ := HX9.out
    go_wp2
    go_ret
    exact ⟨rfl, HU9.out⟩
  have hE : E = 0 := by rw [hE3, if_pos (by simp [hk])]
  have hx1 : X1 = ch := by rw [← HX1.out, hE]; rfl
  have hx2 : X2 = (s + al) % Q := by rw [← HX2.out, hE]; rfl
  subst hE hx1 hx2
  clear hk hE3 HX1 HX2
  have fc0 := cellF c0
  have fc1 := cellF c1
  have fc2 := cellF c2
  have fu0 := cellF u0
  have fu1 := cellF u1
  have fu2 := cellF u2
  have fu3 := cellF u3
  have fv0 := cellF v0
  have fv1 := cellF v1
  have fv2 := cellF v2
  have fx0 := cellF x0
  have fx1 := cellF x1
  clear c0 c1 c2 u0 u1 u2 u3 v0 v1 v2 x0 x1
  go_wp2_with fail
  refine wp_region_up (by kernel_rfl) (by kernel_rfl) ?_
  repeat (go_big_quiet_step ((first
      | (go_at_call 55; exact Calls.up_of (M5.out _))
      | (go_at_call 56; exact Calls.up_of (M6.out _)))))
  refine wpQuiet_nil ?_
  rintro w9 ⟨⟨_, hU9⟩, rfl⟩
  try dsimp only
  have HA9 := hid (HA8.out.up hU9)
  have HB9 := hid (HB8.out.up hU9)
  have HV9 := hid (HV8.out.up hU9)
  have HX9 := hid (HX8.out.up hU9)
  have HU9 := hid (HU8.out.trans hU9)
  clear hU9 HA8 HB8 HV8 HX8 HU8 fc0 fc1 fc2 fu0 fu1 fu2 fu3 fv0 fv1 fv2 fx0 fx1
  obtain ⟨c0, c1, c2⟩ := HA9.out
  have u0 := HB9.out.val (i := 0) rfl
  have u1 := HB9.out.val (i := 1) rfl
  have u2 := HB9.out.val (i := 2) rfl
  have u3 := HB9.out.val (i := 3) rfl
  obtain ⟨v0, v1, v2⟩ := HV9.out
  obtain ⟨x0, x1⟩ := HX9.out
  have fc0 := cellF c0
  have fc1 := cellF c1
  have fc2 := cellF c2
  have fu0 := cellF u0
  have fu1 := cellF u1
  have fu2 := cellF u2
  have fu3 := cellF u3
  have fv0 := cellF v0
  have fv1 := cellF v1
  have fv2 := cellF v2
  have fx0 := cellF x0
  have fx1 := cellF x1
  clear c0 c1 c2 u0 u1 u2 u3 v0 v1 v2 x0 x1
  go_wp2_with fail
  refine wp_region_up (by kernel_rfl) (by kernel_rfl) ?_
  repeat (go_big_quiet_step (fail))
  refine wpQuiet_nil ?_
  rintro w10 ⟨⟨_, hU10⟩, rfl⟩
  try dsimp only
  have HA10 := hid (HA9.out.up hU10)
  have HB10 := hid (HB9.out.up hU10)
  have HV10 := hid (HV9.out.up hU10)
  have HX10 := hid (HX9.out.up hU10)
  have HU10 := hid (HU9.out.trans hU10)
  clear hU10 HA9 HB9 HV9 HX9 HU9 fc0 fc1 fc2 fu0 fu1 fu2 fu3 fv0 fv1 fv2 fx0 fx1
  go_wp2
  go_ret
  exact ⟨by simp, HU10.out⟩
end Go.Proofs.YtdlcmpbpdbpanaaGreatDoor
namespace Go.Proofs.YtdlcmpbpdbpanaaGreatDoor.lawBlindUnblinds
open Go.Proofs.YtdlcmpbpdbpanaaGreatDoor
theorem fact1 : (Rows.blindUnblindsRow.wf (OpenSpec.ofChange (OpenSpec.ofChange Rows.blindUnblindsSpec).bare) : Bool) = true := by kernel_rfl
theorem fact2 : (laidOutB Tryz.pinned.checked.prog : Bool) = true := by kernel_rfl
theorem fact3 : (mapsRowed Tryz.pinned.checked.prog : Bool) = true := by kernel_rfl
theorem fact4 : (Tryz.f9.params.all (Tryz.pinned.checked.prog.readableRec ·) : Bool) = true := by kernel_rfl
theorem fact5 : (namedTie Tryz.pinned.checked.prog Rows.blindUnblindsRow.named (OpenSpec.ofChange Rows.blindUnblindsSpec).bare.vars : Bool) = true := by kernel_rfl
theorem fact6 : ((Rows.blindUnblindsRow.stops == []) : Bool) = true := by kernel_rfl
theorem fact7 : ((Tryz.pinned.checked.prog.stops == []) : Bool) = true := by kernel_rfl
theorem fact8 : ((Rows.blindUnblindsRow.knobs == []) : Bool) = true := by kernel_rfl
theorem fact9 : ((Tryz.pinned.checked.prog.stopKnobs == []) : Bool) = true := by kernel_rfl
theorem fact10 : ((Rows.blindUnblindsRow.inPlace == Tryz.pinned.checked.prog.inPlace 9) : Bool) = true := by kernel_rfl
theorem fact11 : ((Rows.blindUnblindsRow.unfollowed == Tryz.pinned.checked.prog.unfollowed 9) : Bool) = true := by kernel_rfl
theorem fact12 : ((Rows.blindUnblindsRow.recurses == Tryz.pinned.checked.prog.recurses 9) : Bool) = true := by kernel_rfl
theorem fact13 : ((Rows.blindUnblindsRow.named == Tryz.pinned.checked.prog.varsNamed 9) : Bool) = true := by kernel_rfl
theorem fact14 : ((Rows.blindUnblindsRow.maps == (Tryz.f9.params.toList ++ (OpenSpec.ofChange Rows.blindUnblindsSpec).bare.plain.varTypes Tryz.pinned.checked.prog).any (Tryz.pinned.checked.prog.mapsRec ·)) : Bool) = true := by kernel_rfl
theorem fact15 : ((Rows.blindUnblindsRow.ifaces == (Tryz.f9.params.toList ++ (OpenSpec.ofChange Rows.blindUnblindsSpec).bare.plain.varTypes Tryz.pinned.checked.prog).any (Tryz.pinned.checked.prog.ifacesRec ·)) : Bool) = true := by kernel_rfl
theorem fact16 : ((Rows.blindUnblindsRow.mapsOut == Tryz.pinned.checked.prog.mapsAmong Tryz.f9.resultTypes.toList) : Bool) = true := by kernel_rfl
theorem fact17 : ((Rows.blindUnblindsRow.loops == (Tryz.f9.params.toList ++ (OpenSpec.ofChange Rows.blindUnblindsSpec).bare.plain.varTypes Tryz.pinned.checked.prog).any (Tryz.pinned.checked.prog.loopsFrom ·)) : Bool) = true := by kernel_rfl
theorem fact18 : ((Rows.blindUnblindsRow.wideKeys == (Tryz.f9.params.toList ++ (OpenSpec.ofChange Rows.blindUnblindsSpec).bare.plain.varTypes Tryz.pinned.checked.prog ++ Tryz.f9.resultTypes.toList).any (Tryz.pinned.checked.prog.wideKeysFrom ·)) : Bool) = true := by kernel_rfl
theorem fact19 : ((OpenSpec.ofChange Rows.blindUnblindsSpec).bare.vars.all (Tryz.pinned.checked.prog.varReadable ·) : Bool) = true := by kernel_rfl
theorem fact20 : (Tryz.f9.resultTypes.all (fun t => Tryz.pinned.checked.prog.readableRec t && decide (t < Tryz.pinned.checked.prog.types.size)) : Bool) = true := by kernel_rfl
theorem fact21 : ((Rows.blindUnblindsRow.ifacesOut == Tryz.f9.resultTypes.toList.any (Tryz.pinned.checked.prog.ifacesRec ·)) : Bool) = true := by kernel_rfl
theorem fact22 : ((Rows.blindUnblindsRow.loopsOut == Tryz.f9.resultTypes.toList.any (Tryz.pinned.checked.prog.loopsFrom ·)) : Bool) = true := by kernel_rfl
theorem fact23 : ((Rows.blindUnblindsRow.plainKeys == Tryz.pinned.checked.prog.plainKeys) : Bool) = true := by kernel_rfl
theorem fact24 : (Rows.blindUnblindsRow.shortTexts.isNone : Bool) = true := by kernel_rfl
theorem fact25 : (Tryz.pinned.checked.prog.stopsHeard : Bool) = true := by kernel_rfl
theorem fact26 : (Tryz.pinned.checked.prog.mayEnter : Bool) = true := by kernel_rfl
theorem fact27 : ((Rows.blindUnblindsRow.lifted == Tryz.pinned.checked.prog.liftsFinal) : Bool) = true := by kernel_rfl
theorem fact28 : ((Tryz.pinned.checked.prog.make == some Rows.blindUnblindsRow.make) : Bool) = true := by kernel_rfl
theorem fact29 : ((Rows.blindUnblindsRow.kinds == (if Rows.blindUnblindsRow.domain.isEmpty then [] else Tryz.f9.params.toList.map fun t => match Tryz.pinned.checked.prog.underlying t with | some (.int k) => some k | _ => none)) : Bool) = true := by kernel_rfl
theorem fact30 : ((Rows.blindUnblindsRow.pinned == Rows.blindUnblindsRow.pinnedBy) : Bool) = true := by kernel_rfl
theorem fact31 : ((Rows.blindUnblindsRow.veiled == (Tryz.f9.params.toList ++ (OpenSpec.ofChange Rows.blindUnblindsSpec).bare.plain.varTypes Tryz.pinned.checked.prog ++ Tryz.f9.resultTypes.toList).any (Tryz.pinned.checked.prog.veiledRec ·)) : Bool) = true := by kernel_rfl
theorem fact32 : (Rows.blindUnblindsRow.veiledFits Tryz.pinned.checked.prog Tryz.f9.params.toList (Tryz.f9.params.toList ++ (OpenSpec.ofChange Rows.blindUnblindsSpec).bare.plain.varTypes Tryz.pinned.checked.prog ++ Tryz.f9.resultTypes.toList) : Bool) = true := by kernel_rfl
theorem andB {a b : Bool} (h : a = true) (k : b = true) : (a && b) = true := by rw [h, k]; rfl
set_option maxRecDepth 100000 in
theorem closed : joinedFacts Tryz.pinned.checked.prog 9 Tryz.f9 (OpenSpec.ofChange Rows.blindUnblindsSpec).bare Rows.blindUnblindsRow = true := by
  unfold joinedFacts
  exact (andB (andB (andB (andB (andB (andB (andB (andB (andB (andB (andB (andB (andB (andB (andB (andB (andB (andB (andB (andB (andB (andB (andB (andB (andB (andB (andB (andB (andB (andB (andB fact1 fact2) fact3) fact4) fact5) fact6) fact7) fact8) fact9) fact10) fact11) fact12) fact13) fact14) fact15) fact16) fact17) fact18) fact19) fact20) fact21) fact22) fact23) fact24) fact25) fact26) fact27) fact28) fact29) fact30) fact31) fact32)
end Go.Proofs.YtdlcmpbpdbpanaaGreatDoor.lawBlindUnblinds
namespace Go.Proofs.YtdlcmpbpdbpanaaGreatDoor.lawBlindUnblinds
open Go.Proofs.YtdlcmpbpdbpanaaGreatDoor Go.ChangeShapes Go.WideShapes Go.ChangeAt Go.RowKit Go.Sp

set_option maxRecDepth 100000 in
theorem contract (H : Type) (enc : TypeId × Value → H) (W : World) (base : Nat) (args : Array Value) (ds gs : List (DataW H)) (before : List MemPlace)
    (hval : ∀ (j : Nat) t v, Tryz.f9.params[j]? = some t → args[j]? = some v → Value.okWide Tryz.prog W .any base t v)
    (hW : DataW.Whole enc Tryz.prog Tryz.f9.params.toList Rows.blindUnblindsSpec.vars false W args.toList ds gs before) (hL : laidMetH Tryz.prog Rows.blindUnblindsRow.laid W) :
    Calls Tryz.prog 9 args W fun e W' => ∃ v, e = .returned v ∧ Rows.blindUnblindsSpec.post enc Tryz.prog Tryz.f9 false true false false W args v W' := by
  have hT := tab_of_four hL
  have hS := tabS_of_four hL
  have hW' := hW
  obtain ⟨p, q, hA0, hV, rfl, hfz, hnd⟩ := hW
  have hA : DataW.TrodAll enc Tryz.prog W 0 (fun _ => true) true Tryz.f9.params.toList args.toList ds p := hA0
  rw [Tryz.params9] at hA hval
  obtain ⟨v0, vs0, d0, ds0, p0, q0, hargs, rfl, rfl, h0, r0⟩ := trodAll_cons hA
  obtain ⟨v1, vs1, d1, ds1, p1, q1, rfl, rfl, rfl, h1, r1⟩ := trodAll_cons r0
  obtain ⟨v2, vs2, d2, ds2, p2, q2, rfl, rfl, rfl, h2, r2⟩ := trodAll_cons r1
  obtain ⟨v3, vs3, d3, ds3, p3, q3, rfl, rfl, rfl, h3, r3⟩ := trodAll_cons r2
  obtain ⟨v4, vs4, d4, ds4, p4, q4, rfl, rfl, rfl, h4, r4⟩ := trodAll_cons r3
  obtain ⟨v5, vs5, d5, ds5, p5, q5, rfl, rfl, rfl, h5, r5⟩ := trodAll_cons r4
  obtain ⟨rfl, rfl, rfl⟩ := trodAll_nil r5
  obtain rfl : args = #[v0, v1, v2, v3, v4, v5] := by cases args; simp_all
  obtain ⟨rfl, rfl⟩ := trodVars_none hV
  obtain ⟨P0, Q0, G0, rfl, bP0, bQ0, bG0⟩ := open_grp (hval 0 23 v0 rfl rfl) h0
  obtain ⟨x1, rfl, bx1, by1⟩ := open_i64 (hval 1 3 v1 rfl rfl) h1
  obtain ⟨x2, rfl, bx2, by2⟩ := open_i64 (hval 2 3 v2 rfl rfl) h2
  obtain ⟨x3a, x3b, x3c, x3d, rfl, b3⟩ := open_buser (hval 3 71 v3 rfl rfl) h3
  obtain ⟨x4, rfl, bx4, by4⟩ := open_i64 (hval 4 3 v4 rfl rfl) h4
  obtain ⟨x5a, x5b, x5c, rfl, b5⟩ := open_bview (hval 5 80 v5 rfl rfl) h5
  refine (BlindUnblinds_walk P0 Q0 G0 x1 x2 x3a x3b x3c x3d x4 x5a x5b x5c W bP0.1 bQ0.2 hT hS).mono fun e W' ⟨he, hU⟩ => ?_
  exact ⟨_, he, law_shut Tryz.underlying4 (by kernel_rfl) rfl rfl laidOut (by kernel_rfl) hW' hU⟩

theorem laid_met (os : Os) : laidMet Tryz.prog Rows.blindUnblindsRow.laid ((World.laidAll Tryz.prog os laidFour).forCall (fun _ _ => 0) ⟨#[], #[.agg #[.int .i64 0, .int .i64 0, .int .i64 0], .int .i64 0, .int .i64 0, .agg #[.int .i64 0, .int .i64 0, .int .i64 0, .int .i64 0], .int .i64 0, .agg #[.int .i64 0, .int .i64 0, .int .i64 0]], []⟩).memory :=
  laidMet_laidAll _ (by kernel_rfl) (by kernel_rfl)
theorem reads (os : Os) {H : Type} (enc : TypeId × Value → H) : ∃ places, DataW.whole enc Tryz.prog ((World.laidAll Tryz.prog os laidFour).forCall (fun _ _ => 0) ⟨#[], #[.agg #[.int .i64 0, .int .i64 0, .int .i64 0], .int .i64 0, .int .i64 0, .agg #[.int .i64 0, .int .i64 0, .int .i64 0, .int .i64 0], .int .i64 0, .agg #[.int .i64 0, .int .i64 0, .int .i64 0]], []⟩).memory Tryz.f9.params.toList Rows.blindUnblindsSpec.vars false (#[.agg #[.int .i64 0, .int .i64 0, .int .i64 0], .int .i64 0, .int .i64 0, .agg #[.int .i64 0, .int .i64 0, .int .i64 0, .int .i64 0], .int .i64 0, .agg #[.int .i64 0, .int .i64 0, .int .i64 0]] : Array Value).toList 8 = some ([.agg [.lit (.int .i64 0), .lit (.int .i64 0), .lit (.int .i64 0)], .lit (.int .i64 0), .lit (.int .i64 0), .agg [.lit (.int .i64 0), .lit (.int .i64 0), .lit (.int .i64 0), .lit (.int .i64 0)], .lit (.int .i64 0), .agg [.lit (.int .i64 0), .lit (.int .i64 0), .lit (.int .i64 0)]], [], places) :=
  ⟨[], by kernel_rfl⟩

set_option maxRecDepth 100000 in
theorem lifted (os : Os) (started : os.Started) (H : Type) (enc : TypeId × Value → H) (F : Stop.Interp) :
    ReturnsInHanded {} Tryz.checked os 9 .any ((OpenSpec.ofChange Rows.blindUnblindsSpec).preRow enc Tryz.prog Tryz.f9 Rows.blindUnblindsRow.domain false Rows.blindUnblindsRow.laid) (((OpenSpec.ofChange Rows.blindUnblindsSpec).at F).post enc Tryz.prog Tryz.f9 false true false false) := by
  obtain ⟨places, hx⟩ := reads os enc
  refine returnsInHanded_of_row (C := Tryz.checked) (s := OpenSpec.ofChange Rows.blindUnblindsSpec) own started (by kernel_rfl) Tryz.func9
    (witness_row_at (enc := enc) (C := Tryz.checked) false (World.laidAll Tryz.prog os laidFour) #[.agg #[.int .i64 0, .int .i64 0, .int .i64 0], .int .i64 0, .int .i64 0, .agg #[.int .i64 0, .int .i64 0, .int .i64 0, .int .i64 0], .int .i64 0, .agg #[.int .i64 0, .int .i64 0, .int .i64 0]] (World.laidAll_os _ _ _) (by kernel_rfl) (by kernel_rfl) (by kernel_rfl)
      (OpenSpec.preRow_of_cond 8 hx (by kernel_rfl) (fun k hk => by cases hk) (by kernel_rfl) (laid_met os))) ?_
  intro W base args ds gs before hval hW _ _ _ hL _ _
  exact contract H enc W base args ds gs before hval hW hL

theorem said : Rows.BlindUnblindsSaid :=
  OpenClaim.holds_of_cond 9 Tryz.f9 rfl rfl rfl rfl rfl rfl rfl ⟨rfl, rfl, rfl, rfl, rfl⟩ rfl rfl rfl rfl rfl (by kernel_rfl) Tryz.func9 closed
    (of_decide_eq_true (by kernel_rfl)) (by unfold Func.isWrapper; first | (rw [if_pos (by decide +kernel)]; kernel_rfl) | (rw [if_neg (by decide +kernel)]; exact ⟨rfl, rfl⟩))
    (fun os started H enc _ F => by rw [OpenClaim.pre_eq_preRow]; exact lifted os started H enc F)

theorem plain (f : FuncId) (fn : Func) (hf : Tryz.pinned.checked.prog.funcNamed "specie/specielaw23.BlindUnblinds" = some f) (hfn : Tryz.pinned.checked.prog.funcs[f]? = some fn) :
    false = Tryz.pinned.checked.prog.looks [] ∧ ∀ (j : Nat) t, fn.params[j]? = some t → Tryz.pinned.checked.prog.wantsStandIn t = false := by
  obtain rfl : f = 9 := Option.some.inj ((show Tryz.prog.funcNamed "specie/specielaw23.BlindUnblinds" = some 9 by kernel_rfl).symm.trans hf) |>.symm
  obtain rfl : fn = Tryz.f9 := (Option.some.inj (Tryz.func9.symm.trans hfn)).symm
  refine ⟨by kernel_rfl, fun j t ht => ?_⟩
  have hall : Tryz.f9.params.toList.all (fun t => !Tryz.prog.wantsStandIn t) = true := by kernel_rfl
  have := List.all_eq_true.1 hall t (by rw [← Array.mem_toList_iff.symm]; exact Array.mem_of_getElem? ht)
  exact (by simpa using this : Tryz.prog.wantsStandIn t = false)

/-- The card. -/
theorem card : Rows.BlindUnblindsCardSaid :=
  Claim7.holds_tied_plain_at .later [] _ _ _ _ said (fun _ h => by cases h) (by kernel_rfl) (fun _ h => by cases h) blindUnblinds_row_tie rfl ⟨rfl, rfl⟩ (by kernel_rfl) rfl plain (by kernel_rfl)
end Go.Proofs.YtdlcmpbpdbpanaaGreatDoor.lawBlindUnblinds
