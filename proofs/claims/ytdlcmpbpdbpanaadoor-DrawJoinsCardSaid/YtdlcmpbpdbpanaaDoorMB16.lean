/- Restrictive signatures: offers and answers. The reference's restrictive signatures: messages, keys, offers, answers. Restrictive signatures: factors, lists of elements, products, views. The reference's restrictive signatures: factors, views. -/
import Derived.Test.YtdlcmpbpdbpanaaDoorMB15
import Derived.IntWalk
namespace Go.Proofs.YtdlcmpbpdbpanaaDoor
open Go.RowKit Go.Sp
set_option maxHeartbeats 2000000
set_option maxRecDepth 20000

theorem results_tmp4 {fn : Func} {t u v x : Tmp} (h : fn.results = #[.tmp t, .tmp u, .tmp v, .tmp x]) (tmps : Array Value) (P : Program) (w : World) :
    (results fn tmps).run P w = .ok (.tuple #[tmps.getD t undef, tmps.getD u undef, tmps.getD v undef, tmps.getD x undef]) w := by
  simp [results, h]

theorem resOffer_any (P Q G A B C x m n : Int) (w : World) (hP : -9223372036854775808 ≤ P) (hQ : Q ≤ 9223372036854775807) (hT : Tab w) :
    Calls Tryd.prog 75 #[bas P Q G A B C, .int .i64 x, .int .i64 m, .int .i64 n] w fun e w' => e = .returned (.tuple #[.int .i64 (orZ (errE (bvB P Q G A B C) (nzB Q x && (gnB P Q m && exB Q n))) (pwi P m x)), .int .i64 (orZ (errE (bvB P Q G A B C) (nzB Q x && (gnB P Q m && exB Q n))) (pwi P G n)), .int .i64 (orZ (errE (bvB P Q G A B C) (nzB Q x && (gnB P Q m && exB Q n))) (pwi P m n)), .int .i64 (errE (bvB P Q G A B C) (nzB Q x && (gnB P Q m && exB Q n)))]) ∧ Up w w' := by
  have HT := hid hT
  clear hT
  go_enter Tryd.func75, Tryd.ntmps75
  go_wp2_with fail
  have HA := hid (bas_reads (o := .cells #[.int .i64 P, .int .i64 Q, .int .i64 G, .int .i64 A, .int .i64 B, .int .i64 C] 54) rfl (Up.refl (w.alloc _)))
  refine (bValid_any P Q G A B C _ hP hQ (HT.out.up ((Up.refl w).alloc _))).mono ?_
  rintro e w1 ⟨rfl, hU1⟩
  have HA1 := hid (HA.out.up hU1)
  have HU1 := hid (((Up.refl w).alloc _).trans hU1)
  clear hU1 HA
  obtain ⟨⟨c0, c1, c2⟩, c3, c4, c5⟩ := HA1.out
  by_cases hg : bvB P Q G A B C = true
  case neg =>
    have hg' : bvB P Q G A B C = false := by simpa using hg
    have Hg := hid hg'
    rw [hg']
    clear hg hg'
    go_wp2
    refine bodyPost_ret (results_tmp4 rfl _ _ _) rfl ?_
    exact ⟨by rw [Hg.out]; rfl, HU1.out⟩
  have Hb := hid hg
  obtain ⟨hg1, ha, hb, hc⟩ := bv_iff.1 hg
  have g := gv_iff.1 hg1
  have g1 := g.P61
  have g2 := g.P4
  have g3 := g.Q3
  have g4 := g.QP
  have g5 := g.G2
  have g6 := g.GP
  rw [hg]
  clear hg g
  go_wp2_with fail
  refine (resNonzero_any P Q G A B C x _).mono ?_
  rintro e w2 ⟨rfl, hU2⟩
  have HA2 := hid (HA1.out.up hU2)
  have HU2 := hid (HU1.out.trans hU2)
  clear hU2 HA1 c0 c1 c2 c3 c4 c5
  obtain ⟨⟨c0, c1, c2⟩, c3, c4, c5⟩ := HA2.out
  by_cases hx : nzB Q x = true
  case neg =>
    have hx' : nzB Q x = false := by simpa using hx
    have H2f := hid hx'
    rw [hx']
    clear hx hx'
    go_wp2
    refine bodyPost_ret (results_tmp4 rfl _ _ _) rfl ?_
    exact ⟨by rw [Hb.out, H2f.out]; rfl, HU2.out⟩
  have H2c := hid hx
  rw [hx]
  clear hx
  go_wp2_with fail
  refine (resMessage_any P Q G A B C m _ g1 (by omega) hQ).mono ?_
  rintro e w3 ⟨rfl, hU3⟩
  have HA3 := hid (HA2.out.up hU3)
  have HU3 := hid (HU2.out.trans hU3)
  clear hU3 HA2 c0 c1 c2 c3 c4 c5
  obtain ⟨⟨c0, c1, c2⟩, c3, c4, c5⟩ := HA3.out
  by_cases hx : gnB P Q m = true
  case neg =>
    have hx' : gnB P Q m = false := by simpa using hx
    have H3f := hid hx'
    rw [hx']
    clear hx hx'
    go_wp2
    refine bodyPost_ret (results_tmp4 rfl _ _ _) rfl ?_
    exact ⟨by rw [Hb.out, H2c.out, H3f.out]; rfl, HU3.out⟩
  have H3c := hid hx
  rw [hx]
  clear hx
  go_wp2_with fail
  refine (resScalar_any P Q G A B C n _).mono ?_
  rintro e w4 ⟨rfl, hU4⟩
  have HA4 := hid (HA3.out.up hU4)
  have HU4 := hid (HU3.out.trans hU4)
  clear hU4 HA3 c0 c1 c2 c3 c4 c5
  obtain ⟨⟨c0, c1, c2⟩, c3, c4, c5⟩ := HA4.out
  by_cases hx : exB Q n = true
  case neg =>
    have hx' : exB Q n = false := by simpa using hx
    have H4f := hid hx'
    rw [hx']
    clear hx hx'
    go_wp2
    refine bodyPost_ret (results_tmp4 rfl _ _ _) rfl ?_
    exact ⟨by rw [Hb.out, H2c.out, H3c.out, H4f.out]; rfl, HU4.out⟩
  have H4c := hid hx
  rw [hx]
  clear hx
  obtain ⟨x0, x1⟩ := nzB_iff.1 H2c.out
  obtain ⟨n0, n1⟩ := exB_iff.1 H4c.out
  obtain ⟨m0, m1, _⟩ := el_iff.1 (gn_el H3c.out)
  have M1 := hid (fun w' => resPower_ok P Q G A B C m x w' (by omega) m1 (by omega) (by omega) g1)
  have M2 := hid (fun w' => resPower_ok P Q G A B C G n w' (by omega) g6 (by omega) (by omega) g1)
  have M3 := hid (fun w' => resPower_ok P Q G A B C m n w' (by omega) m1 (by omega) (by omega) g1)
  have HE : Hid ((errE (bvB P Q G A B C) (nzB Q x && (gnB P Q m && exB Q n))) = 0) := hid (by rw [Hb.out, H2c.out, H3c.out, H4c.out]; rfl)
  have f0 := cellF c0
  have f1 := cellF c1
  have f2 := cellF c2
  have f3 := cellF c3
  have f4 := cellF c4
  have f5 := cellF c5
  clear c0 c1 c2 c3 c4 c5
  go_wp2_with fail
  refine wp_region_up (by kernel_rfl) (by kernel_rfl) ?_
  repeat (go_big_quiet_step ((first
    | (go_at_call 128; first
      | ((with_reducible (show Calls _ _ #[_, .int .i64 G, _] _ _)); exact Calls.up_of (M2.out _))
      | ((with_reducible (show Calls _ _ #[_, _, .int .i64 x] _ _)); exact Calls.up_of (M1.out _))
      | ((with_reducible (show Calls _ _ #[_, _, .int .i64 n] _ _)); exact Calls.up_of (M3.out _))))))
  refine wpQuiet_nil ?_
  rintro _ ⟨p, rfl⟩
  go_wp2
  refine bodyPost_ret (results_tmp4 rfl _ _ _) rfl ?_
  exact ⟨by rw [HE.out]; rfl, HU4.out.trans p.up⟩

theorem resAnswer_any (P Q G A B C x n c : Int) (w : World) (hP : -9223372036854775808 ≤ P) (hQ : Q ≤ 9223372036854775807) (hT : Tab w) :
    Calls Tryd.prog 76 #[bas P Q G A B C, .int .i64 x, .int .i64 n, .int .i64 c] w fun e w' => e = .returned (.tuple #[.int .i64 (orZ (errE (bvB P Q G A B C) (nzB Q x && (exB Q n && exB Q c))) ((c * x % Q + n) % Q)), .int .i64 (errE (bvB P Q G A B C) (nzB Q x && (exB Q n && exB Q c)))]) ∧ Up w w' := by
  have HT := hid hT
  clear hT
  go_enter Tryd.func76, Tryd.ntmps76
  go_wp2_with fail
  have HA := hid (bas_reads (o := .cells #[.int .i64 P, .int .i64 Q, .int .i64 G, .int .i64 A, .int .i64 B, .int .i64 C] 54) rfl (Up.refl (w.alloc _)))
  refine (bValid_any P Q G A B C _ hP hQ (HT.out.up ((Up.refl w).alloc _))).mono ?_
  rintro e w1 ⟨rfl, hU1⟩
  have HA1 := hid (HA.out.up hU1)
  have HU1 := hid (((Up.refl w).alloc _).trans hU1)
  clear hU1 HA
  obtain ⟨⟨c0, c1, c2⟩, c3, c4, c5⟩ := HA1.out
  by_cases hg : bvB P Q G A B C = true
  case neg =>
    have hg' : bvB P Q G A B C = false := by simpa using hg
    have Hg := hid hg'
    rw [hg']
    clear hg hg'
    go_wp2
    go_ret2
    exact ⟨by rw [Hg.out]; rfl, HU1.out⟩
  have Hb := hid hg
  obtain ⟨hg1, ha, hb, hc⟩ := bv_iff.1 hg
  have g := gv_iff.1 hg1
  have g1 := g.P61
  have g2 := g.P4
  have g3 := g.Q3
  have g4 := g.QP
  have g5 := g.G2
  have g6 := g.GP
  rw [hg]
  clear hg g
  go_wp2_with fail
  refine (resNonzero_any P Q G A B C x _).mono ?_
  rintro e w2 ⟨rfl, hU2⟩
  have HA2 := hid (HA1.out.up hU2)
  have HU2 := hid (HU1.out.trans hU2)
  clear hU2 HA1 c0 c1 c2 c3 c4 c5
  obtain ⟨⟨c0, c1, c2⟩, c3, c4, c5⟩ := HA2.out
  by_cases hx : nzB Q x = true
  case neg =>
    have hx' : nzB Q x = false := by simpa using hx
    have H2f := hid hx'
    rw [hx']
    clear hx hx'
    go_wp2
    go_ret2
    exact ⟨by rw [Hb.out, H2f.out]; rfl, HU2.out⟩
  have H2c := hid hx
  rw [hx]
  clear hx
  go_wp2_with fail
  refine (resScalar_any P Q G A B C n _).mono ?_
  rintro e w3 ⟨rfl, hU3⟩
  have HA3 := hid (HA2.out.up hU3)
  have HU3 := hid (HU2.out.trans hU3)
  clear hU3 HA2 c0 c1 c2 c3 c4 c5
  obtain ⟨⟨c0, c1, c2⟩, c3, c4, c5⟩ := HA3.out
  by_cases hx : exB Q n = true
  case neg =>
    have hx' : exB Q n = false := by simpa using hx
    have H3f := hid hx'
    rw [hx']
    clear hx hx'
    go_wp2
    go_ret2
    exact ⟨by rw [Hb.out, H2c.out, H3f.out]; rfl, HU3.out⟩
  have H3c := hid hx
  rw [hx]
  clear hx
  go_wp2_with fail
  refine (resScalar_any P Q G A B C c _).mono ?_
  rintro e w4 ⟨rfl, hU4⟩
  have HA4 := hid (HA3.out.up hU4)
  have HU4 := hid (HU3.out.trans hU4)
  clear hU4 HA3 c0 c1 c2 c3 c4 c5
  obtain ⟨⟨c0, c1, c2⟩, c3, c4, c5⟩ := HA4.out
  by_cases hx : exB Q c = true
  case neg =>
    have hx' : exB Q c = false := by simpa using hx
    have H4f := hid hx'
    rw [hx']
    clear hx hx'
    go_wp2
    go_ret2
    exact ⟨by rw [Hb.out, H2c.out, H3c.out, H4f.out]; rfl, HU4.out⟩
  have H4c := hid hx
  rw [hx]
  clear hx
  obtain ⟨x0, x1⟩ := nzB_iff.1 H2c.out
  obtain ⟨n0, n1⟩ := exB_iff.1 H3c.out
  obtain ⟨m0, m1⟩ := exB_iff.1 H4c.out
  have M1 := hid (fun w' => resScaled_ok P Q G A B C c x w' (by omega) m1 (by omega) (by omega) (by omega))
  have HE : Hid ((errE (bvB P Q G A B C) (nzB Q x && (exB Q n && exB Q c))) = 0) := hid (by rw [Hb.out, H2c.out, H3c.out, H4c.out]; rfl)
  have r0 := Int.emod_nonneg (c * x) (show Q ≠ 0 by omega)
  have r1 := Int.emod_lt_of_pos (c * x) (show 0 < Q by omega)
  obtain ⟨Y, hY⟩ : ∃ Y, c * x % Q = Y := ⟨_, rfl⟩
  rw [hY] at M1 r0 r1
  have HY := hid hY
  clear hY
  have hwr : IntKind.i64.wrap (Y + n) = Y + n := IntWalk.i64_in _ (by omega)
  have htm : (Y + n).tmod Q = (Y + n) % Q := Int.tmod_eq_emod_of_nonneg (by omega)
  have hq0 : (Q == 0) = false := by simp; omega
  have f0 := cellF c0
  have f1 := cellF c1
  have f2 := cellF c2
  have f3 := cellF c3
  have f4 := cellF c4
  have f5 := cellF c5
  clear c0 c1 c2 c3 c4 c5
  go_wp2_with fail
  refine wp_region_up (by kernel_rfl) (by kernel_rfl) ?_
  repeat (go_big_quiet_step ((first
    | (go_at_call 131; exact Calls.up_of (M1.out _)))))
  refine wpQuiet_nil ?_
  rintro _ ⟨p, rfl⟩
  go_wp2
  go_ret2
  exact ⟨by rw [HE.out, HY.out]; rfl, HU4.out.trans p.up⟩
end Go.Proofs.YtdlcmpbpdbpanaaDoor
namespace Go.Proofs.YtdlcmpbpdbpanaaDoor
open Go.RowKit Go.Sp
set_option maxHeartbeats 2000000
set_option maxRecDepth 20000

theorem r25Message_any (P Q G x : Int) (w : World) (g1 : P < 2305843009213693952) (g3 : 0 ≤ Q) (hQ : Q ≤ 9223372036854775807) :
    Calls Tryd.prog 150 #[grp P Q G, .int .i64 x] w fun e w' => e = .returned (.bool (gnB P Q x)) ∧ Up w w' := by
  by_cases hx : x = 1
  · have d1 : (x != 1) = false := by simpa using hx
    have hB : gnB P Q x = false := by simp [gnB, hx]
    rw [hB]
    clear hx hB
    go_enter Tryd.func150, Tryd.ntmps150
    go_wp2
    go_ret
    exact ⟨rfl, (Up.refl w).alloc _⟩
  · have d1 : (x != 1) = true := by simpa using hx
    have hB : gnB P Q x = elB P Q x := by simp [gnB, hx]
    rw [hB]
    clear hx hB
    go_enter Tryd.func150, Tryd.ntmps150
    go_wp2_with fail
    refine (rMember_any P Q G x _ g1 g3 hQ).mono ?_
    rintro e w3 ⟨rfl, hU3⟩
    go_wp2
    go_ret
    exact ⟨rfl, ((Up.refl w).alloc _).trans hU3⟩

theorem r25Valid_any (P Q G A B C x y z : Int) (w : World) (hP : -9223372036854775808 ≤ P) (hQ : Q ≤ 9223372036854775807) :
    Calls Tryd.prog 108 #[bas P Q G A B C, bkey x y z] w fun e w' => e = .returned (.bool (kvB P Q G A B C x y z)) ∧ Up w w' := by
  have HB : Hid (kvB P Q G A B C x y z = (bvB P Q G A B C && (gnB P Q x && (gnB P Q y && gnB P Q z)))) := hid rfl
  generalize kvB P Q G A B C x y z = X at *
  go_enter Tryd.func108, Tryd.ntmps108
  go_wp2_with fail
  have HA := hid (bas_reads (o := .cells #[.int .i64 P, .int .i64 Q, .int .i64 G, .int .i64 A, .int .i64 B, .int .i64 C] 54) rfl ((Up.refl (w.alloc _)).alloc (.cells #[.int .i64 x, .int .i64 y, .int .i64 z] 79)))
  have HK := hid (three_reads (w := w) (o := .cells #[.int .i64 P, .int .i64 Q, .int .i64 G, .int .i64 A, .int .i64 B, .int .i64 C] 54) (x := x) (y := y) (z := z) (t := 79) (Up.refl _))
  refine (rbValid_any P Q G A B C _ hP hQ).mono ?_
  rintro e w1 ⟨rfl, hU1⟩
  have HA1 := hid (HA.out.up hU1)
  have HK1 := hid (HK.out.up hU1)
  have HU1 := hid ((((Up.refl w).alloc _).alloc _).trans hU1)
  clear hU1 HA HK
  obtain ⟨⟨c0, c1, c2⟩, c3, c4, c5⟩ := HA1.out
  obtain ⟨e0, e1, e2⟩ := HK1.out
  by_cases hg : bvB P Q G A B C = true
  case neg =>
    have hg' : bvB P Q G A B C = false := by simpa using hg
    have hX : X = false := by rw [HB.out, hg']; rfl
    subst hX
    rw [hg']
    clear hg hg'
    go_wp2
    go_ret
    exact ⟨rfl, HU1.out⟩
  have g := gv_iff.1 (bv_iff.1 hg).1
  have g1 := g.P61
  have g3 := g.Q3
  have HB1 : Hid (X = (gnB P Q x && (gnB P Q y && gnB P Q z))) := hid (by rw [HB.out, hg]; rfl)
  rw [hg]
  clear hg g HB
  go_wp2_with fail
  refine (r25Message_any P Q G x _ g1 (by omega) hQ).mono ?_
  rintro e w2 ⟨rfl, hU2⟩
  have HA2 := hid (HA1.out.up hU2)
  have HK2 := hid (HK1.out.up hU2)
  have HU2 := hid (HU1.out.trans hU2)
  clear hU2 c0 c1 c2 c3 c4 c5 e0 e1 e2 HA1 HK1
  obtain ⟨⟨c0, c1, c2⟩, c3, c4, c5⟩ := HA2.out
  obtain ⟨e0, e1, e2⟩ := HK2.out
  by_cases h1 : gnB P Q x = true
  case neg =>
    have h1' : gnB P Q x = false := by simpa using h1
    have hX : X = false := by rw [HB1.out, h1']; rfl
    subst hX
    rw [h1']
    clear h1 h1'
    go_wp2
    go_ret
    exact ⟨rfl, HU2.out⟩
  have HB2 : Hid (X = (gnB P Q y && gnB P Q z)) := hid (by rw [HB1.out, h1]; rfl)
  rw [h1]
  clear h1 HB1
  go_wp2_with fail
  refine (r25Message_any P Q G y _ g1 (by omega) hQ).mono ?_
  rintro e w3 ⟨rfl, hU3⟩
  have HA3 := hid (HA2.out.up hU3)
  have HK3 := hid (HK2.out.up hU3)
  have HU3 := hid (HU2.out.trans hU3)
  clear hU3 c0 c1 c2 c3 c4 c5 e0 e1 e2 HA2 HK2
  obtain ⟨⟨c0, c1, c2⟩, c3, c4, c5⟩ := HA3.out
  obtain ⟨e0, e1, e2⟩ := HK3.out
  by_cases h1 : gnB P Q y = true
  case neg =>
    have h1' : gnB P Q y = false := by simpa using h1
    have hX : X = false := by rw [HB2.out, h1']; rfl
    subst hX
    rw [h1']
    clear h1 h1'
    go_wp2
    go_ret
    exact ⟨rfl, HU3.out⟩
  have HB3 : Hid (X = (gnB P Q z)) := hid (by rw [HB2.out, h1]; rfl)
  rw [h1]
  clear h1 HB2
  go_wp2_with fail
  refine (r25Message_any P Q G z _ g1 (by omega) hQ).mono ?_
  rintro e w4 ⟨rfl, hU4⟩
  rw [← HB3.out]
  go_wp2
  go_ret
  exact ⟨rfl, HU3.out.trans hU4⟩

theorem keepC5Store {w0 w w' : World} {o : Nat} {P Q G A B : Int} {x y z : Value} (hb : w0.heap.size ≤ o) (hw : w' = ((w.setCell ⟨o + 1, 0, none⟩ x).setCell ⟨o + 1, 1, none⟩ y).setCell ⟨o + 1, 2, none⟩ z)
    (h : w.cell? ⟨o + 2, 0, none⟩ = some (.int .i64 P) ∧ w.cell? ⟨o + 2, 1, none⟩ = some (.int .i64 Q) ∧ w.cell? ⟨o + 2, 2, none⟩ = some (.int .i64 G) ∧ w.cell? ⟨o, 3, none⟩ = some (.int .i64 A) ∧ w.cell? ⟨o, 4, none⟩ = some (.int .i64 B) ∧ Hid (Up w0 w)) :
    w'.cell? ⟨o + 2, 0, none⟩ = some (.int .i64 P) ∧ w'.cell? ⟨o + 2, 1, none⟩ = some (.int .i64 Q) ∧ w'.cell? ⟨o + 2, 2, none⟩ = some (.int .i64 G) ∧ w'.cell? ⟨o, 3, none⟩ = some (.int .i64 A) ∧ w'.cell? ⟨o, 4, none⟩ = some (.int .i64 B) ∧ Hid (Up w0 w') := by
  subst hw
  obtain ⟨h0, h1, h2, h3, h4, hU⟩ := h
  have key : ∀ k i, k ≠ o + 1 → (((w.setCell ⟨o + 1, 0, none⟩ x).setCell ⟨o + 1, 1, none⟩ y).setCell ⟨o + 1, 2, none⟩ z).cell? ⟨k, i, none⟩ = w.cell? ⟨k, i, none⟩ := fun k i hk => by
    rw [World.cell?_setCell_other, World.cell?_setCell_other, World.cell?_setCell_other] <;> exact fun h => hk (congrArg Addr.block h).symm
  refine ⟨(key _ _ (by omega)).trans h0, (key _ _ (by omega)).trans h1, (key _ _ (by omega)).trans h2, (key _ _ (by omega)).trans h3, (key _ _ (by omega)).trans h4, hid (((hU.out.setCell ?_ _).setCell ?_ _).setCell ?_ _)⟩ <;> exact Nat.le_succ_of_le hb

end Go.Proofs.YtdlcmpbpdbpanaaDoor
namespace Go.Proofs.YtdlcmpbpdbpanaaDoor
open Go.RowKit Go.Sp
set_option maxHeartbeats 2000000
set_option maxRecDepth 20000

theorem nums_three {w : World} {r : Nat} {x y z : Int} {t : TypeId} (hr : w.heap.size = r) : GrpAt (w.alloc (.cells #[.int .i64 x, .int .i64 y, .int .i64 z] t)) r x y z := by
  subst hr
  exact ⟨by go_simp, by go_simp, by go_simp⟩
theorem nums_six {w : World} {r : Nat} {x y z a b c : Int} {t : TypeId} (hr : w.heap.size = r) : BasAt (w.alloc (.cells #[.int .i64 x, .int .i64 y, .int .i64 z, .int .i64 a, .int .i64 b, .int .i64 c] t)) r x y z a b c := by
  subst hr
  exact ⟨⟨by go_simp, by go_simp, by go_simp⟩, by go_simp, by go_simp, by go_simp⟩

/-- Valid blinding factors. -/
def facB (Q s u v : Int) : Bool := nzB Q s && (nzB Q u && exB Q v)

/-- Bases and factors, in two boxes. -/
def TwoAt (w : World) (o : Nat) (P Q G A B C s u v : Int) : Prop := BasAt w o P Q G A B C ∧ GrpAt w (o + 1) s u v
theorem TwoAt.up {w w' : World} {o : Nat} {P Q G A B C s u v : Int} (h : TwoAt w o P Q G A B C s u v) (hU : Up w w') : TwoAt w' o P Q G A B C s u v := ⟨h.1.up hU, h.2.up hU⟩

theorem resElements_any (P Q G A B C : Int) (v : Value) (xs : List Int) (w : World) (g1 : P < 2305843009213693952) (g3 : 0 ≤ Q) (hQ : Q ≤ 9223372036854775807) (hv : IntsAt w v xs) :
    Calls Tryd.prog 78 #[bas P Q G A B C, v] w fun e w' => e = .returned (.bool (xs.all (elB P Q))) ∧ Up w w' := by
  obtain ⟨l1, a1, cp1, rfl, hc1⟩ := hv
  have HC1 := hid hc1
  obtain ⟨X, hX⟩ : ∃ X, xs.all (elB P Q) = X := ⟨_, rfl⟩
  have HX := hid hX
  obtain ⟨n, hn⟩ : ∃ n, xs.length = n := ⟨_, rfl⟩
  have HN := hid hn
  rw [hX]
  rw [hn] at l1
  rw [hn]
  have HBd : Hid (∀ i, i < n → (elB P Q) (xs.getD i 0) = false → X = false) := hid (fun i hi h => by rw [← HX.out]; exact not_all (by rw [HN.out]; exact hi) h)
  clear hc1 hX hn
  go_enter Tryd.func78, Tryd.ntmps78
  go_wp2_with fail
  have HG0 := hid (bas_reads (w := w) (o := .cells #[.int .i64 P, .int .i64 Q, .int .i64 G, .int .i64 A, .int .i64 B, .int .i64 C] 54) rfl (Up.refl _))
  have HU0 := hid ((Up.refl w).alloc (.cells #[.int .i64 P, .int .i64 Q, .int .i64 G, .int .i64 A, .int .i64 B, .int .i64 C] 54))
  obtain ⟨o, ho⟩ : ∃ o, w.heap.size = o := ⟨_, rfl⟩
  rw [ho] at HG0
  rw [ho]
  clear ho
  go_loopw [9] (fun vi wr => ∃ i : Nat, i ≤ n ∧ vi = .int .i64 i ∧ Hid (∀ j, j < i → (elB P Q) (xs.getD j 0) = true) ∧ Hid (Up w wr) ∧ Hid (BasAt wr o P Q G A B C)) (fun vi _ => n - (intOf vi).toNat)
  case atStart => exact ⟨0, by omega, rfl, hid (fun j hj => by omega), HU0, HG0⟩
  case round =>
    obtain ⟨i, hi, rfl, HG, HU, HGr⟩ := hrel
    obtain ⟨⟨c0, c1, c2⟩, c3, c4, c5⟩ := HGr.out
    by_cases hl : i < n
    · have hl1 : i < xs.length := by rw [HN.out]; exact hl
      obtain ⟨b1, o1, rfl, k1⟩ := ints_cell HC1.out HU.out hl1
      have HBi := hid (HBd.out i hl)
      have HS : Hid ((elB P Q) (xs.getD i 0) = true → ∀ j, j < i + 1 → (elB P Q) (xs.getD j 0) = true) := hid (fun h j hj => by
        rcases Nat.lt_or_ge j i with h3 | h3
        · exact HG.out j h3
        · obtain rfl : j = i := by omega
          exact h)
      clear hl1 HG
      generalize xs.getD i 0 = x at *
      go_wp2_with fail
      refine (resElement_any P Q G A B C x _ g1 g3 hQ).mono ?_
      rintro e w3 ⟨rfl, hU3⟩
      have HU3 := hid (HU.out.trans hU3)
      have HG3 := hid (HGr.out.up hU3)
      clear hU3 c0 c1 c2 c3 c4 c5
      by_cases hx : (elB P Q) x = true
      · have Hx := hid hx
        rw [hx]
        clear hx
        go_wp2_with fail
        go_roundw
        case rel => exact ⟨i + 1, by omega, by go_num, hid (HS.out Hx.out), HU3, HG3⟩
        case measure => simp [intOf]; omega
      · have hx' : (elB P Q) x = false := by simpa using hx
        obtain rfl := HBi.out hx'
        rw [hx']
        clear hx hx'
        go_wp2
        go_ret
        exact ⟨rfl, HU3.out⟩
    · obtain rfl : i = n := by omega
      have hX : X = true := by rw [← HX.out]; exact all_of (by rw [HN.out]; exact HG.out)
      subst hX
      go_wp2
      go_ret
      exact ⟨rfl, HU.out⟩

theorem pwi_one {P b : Int} (h0 : 0 ≤ b) (h1 : b < P) : pwi P b 1 = b := by
  show pw b 1 P = b
  exact pw_one_exp h0 h1

/-- A view as a value. -/
abbrev vw (m z x y c r : Int) : Value := .agg #[.int .i64 m, .int .i64 z, .int .i64 x, .int .i64 y, .int .i64 c, .int .i64 r]
/-- What holds of a right view, beyond the ranges. -/
def cvE (P G k1 m z x y c r : Int) : Bool := pwi P G r == pwi P k1 c * x % P && pwi P m r == pwi P z c * y % P
/-- A right view. -/
def cvB (P Q G A B C k1 k2 k3 m z x y c r : Int) : Bool :=
  kvB P Q G A B C k1 k2 k3 && (gnB P Q m && (elB P Q z && (elB P Q x && (elB P Q y && (nzB Q c && (exB Q r && cvE P G k1 m z x y c r))))))

/-- Bases, a key and a view, in three boxes. -/
def ViewsAt (w : World) (o : Nat) (P Q G A B C k1 k2 k3 m z x y c r : Int) : Prop := BasAt w o P Q G A B C ∧ GrpAt w (o + 1) k1 k2 k3 ∧ BasAt w (o + 2) m z x y c r
theorem ViewsAt.up {w w' : World} {o : Nat} {P Q G A B C k1 k2 k3 m z x y c r : Int} (h : ViewsAt w o P Q G A B C k1 k2 k3 m z x y c r) (hU : Up w w') : ViewsAt w' o P Q G A B C k1 k2 k3 m z x y c r := ⟨h.1.up hU, h.2.1.up hU, h.2.2.up hU⟩
theorem views_new {w : World} {o : Nat} {t t1 t2 : TypeId} {P Q G A B C k1 k2 k3 m z x y c r : Int} (ho : w.heap.size = o) :
    ViewsAt (((w.alloc (.cells #[.int .i64 P, .int .i64 Q, .int .i64 G, .int .i64 A, .int .i64 B, .int .i64 C] t)).alloc (.cells #[.int .i64 k1, .int .i64 k2, .int .i64 k3] t1)).alloc (.cells #[.int .i64 m, .int .i64 z, .int .i64 x, .int .i64 y, .int .i64 c, .int .i64 r] t2)) o P Q G A B C k1 k2 k3 m z x y c r :=
  ⟨(nums_six ho).up (((Up.refl _).alloc _).alloc _), (nums_three (by simp [ho])).up ((Up.refl _).alloc _), nums_six (by simp [ho])⟩

end Go.Proofs.YtdlcmpbpdbpanaaDoor
namespace Go.Proofs.YtdlcmpbpdbpanaaDoor
open Go.RowKit Go.Sp
set_option maxHeartbeats 2000000
set_option maxRecDepth 20000

/-- Bases, a key, a view and a group, in four boxes. -/
def FourAt (w : World) (o : Nat) (P Q G A B C k1 k2 k3 m z x y c r : Int) : Prop := ViewsAt w o P Q G A B C k1 k2 k3 m z x y c r ∧ GrpAt w (o + 3) P Q G
theorem FourAt.up {w w' : World} {o : Nat} {P Q G A B C k1 k2 k3 m z x y c r : Int} (h : FourAt w o P Q G A B C k1 k2 k3 m z x y c r) (hU : Up w w') : FourAt w' o P Q G A B C k1 k2 k3 m z x y c r := ⟨h.1.up hU, h.2.up hU⟩

end Go.Proofs.YtdlcmpbpdbpanaaDoor
