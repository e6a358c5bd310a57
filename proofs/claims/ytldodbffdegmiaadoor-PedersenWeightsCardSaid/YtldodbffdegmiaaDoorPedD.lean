/- The examples of layer 15; the reference's bases and commitments. -/
import Derived.Test.YtldodbffdegmiaaDoorPedC
import Derived.Test.YtldodbffdegmiaaDoorAwakeTen
import Derived.Deep.RegionWith
namespace Go.Proofs.YtldodbffdegmiaaDoor
open Go.RowKit Go.Sp
set_option maxHeartbeats 2000000
set_option maxRecDepth 20000

theorem ints_four {w : World} {b cap : Nat} {x y z u : Int} (h : w.cell? ⟨b, 0, none⟩ = some (.int .i64 x)) (h1 : w.cell? ⟨b, 1, none⟩ = some (.int .i64 y)) (h2 : w.cell? ⟨b, 2, none⟩ = some (.int .i64 z)) (h3 : w.cell? ⟨b, 3, none⟩ = some (.int .i64 u)) : IntsAt w (.slice (some ⟨b, 0, none⟩) 4 cap) [x, y, z, u] :=
  ints_at (xs := [x, y, z, u]) (by simp) fun i hi => by
    have : i = 0 ∨ i = 1 ∨ i = 2 ∨ i = 3 := by simp at hi; omega
    rcases this with rfl | rfl | rfl | rfl
    · exact h
    · exact h1
    · exact h2
    · exact h3

theorem Other15 (w : World) (hT : Tab w) : Calls Tryd.prog 104 #[bas 23 11 4 2 3 9, .int .i64 2, .int .i64 3, .int .i64 5, .int .i64 8] w fun e w' => e = .returned (.tuple #[.int .i64 4, .int .i64 0]) ∧ Up w w' := by
  have HT := hid hT
  clear hT
  have hg : givE 23 11 4 2 3 9 [2, 3, 5, 8] [] = 0 := by decide +kernel
  have hp : gpw 23 11 4 8 = 9 := by decide +kernel
  have HG := hid hg
  have HP := hid hp
  clear hg hp
  go_enter Tryd.func104, Tryd.ntmps104
  go_wp2_with fail
  refine (given_any 23 11 4 2 3 9 _ _ [2, 3, 5, 8] [] _ (by omega) (by omega) (HT.out.up (((Up.refl w).alloc _).alloc _)) (ints_four (by go_simp) (by go_simp) (by go_simp) (by go_simp)) (ints_none _)).mono ?_
  rintro e w1 ⟨rfl, hU1⟩
  rw [HG.out]
  have HA := hid ((bas_reads (o := .cells #[.int .i64 23, .int .i64 11, .int .i64 4, .int .i64 2, .int .i64 3, .int .i64 9] 73) rfl ((Up.refl (w.alloc _)).alloc _)).up hU1)
  have HU1 := hid ((((Up.refl w).alloc _).alloc _).trans hU1)
  clear hU1
  obtain ⟨⟨c0, c1, c2⟩, c3, c4, c5⟩ := HA.out
  go_wp2_with fail
  refine (gPower_ok 23 11 4 4 8 _ (by omega) (HT.out.up HU1.out) gv_small (by decide +kernel) (by omega) (by omega)).mono ?_
  rintro e w2 ⟨rfl, hU2⟩
  rw [HP.out]
  obtain ⟨⟨c0, c1, c2⟩, c3, c4, c5⟩ := HA.out.up hU2
  have HU2 := hid (HU1.out.trans hU2)
  clear hU2
  go_wp2_with fail
  refine (Inverse_ok 8 11 7 _ (by omega) (by omega) (by omega) (by omega) (by omega) (by decide)).mono ?_
  rintro e w3 ⟨rfl, hU3⟩
  have HU3 := hid (HU2.out.trans hU3)
  clear hU3 c0 c1 c2 c3 c4 c5
  go_wp2_with fail
  refine (Sub_ok 2 5 11 _ (by omega) (by omega) (by omega) (by omega) (by omega)).mono ?_
  rintro e w4 ⟨rfl, hU4⟩
  rw [show ((2 : Int) - 5) % 11 = 8 by decide]
  have HU4 := hid (HU3.out.trans hU4)
  clear hU4
  go_wp2_with fail
  refine (Mul_ok 8 7 11 _ (by omega) (by omega) (by omega) (by omega) (by omega)).mono ?_
  rintro e w5 ⟨rfl, hU5⟩
  rw [show (8 : Int) * 7 % 11 = 1 by decide]
  have HU5 := hid (HU4.out.trans hU5)
  clear hU5
  go_wp2_with fail
  refine (Add_ok 3 1 11 _ (by omega) (by omega) (by omega) (by omega) (by omega)).mono ?_
  rintro e w6 ⟨rfl, hU6⟩
  rw [show ((3 : Int) + 1) % 11 = 4 by decide]
  go_wp2
  go_ret2
  exact ⟨rfl, HU5.out.trans hU6⟩

theorem awake15 (w : World) (hT : Tab w) : Calls Tryd.prog 61 #[] w fun e w' => e = .returned (.bool true) ∧ Up w w' := by
  have HT := hid hT
  clear hT
  have h1 : givE 23 11 4 2 3 9 [2, 3] [] = 0 := by decide +kernel
  have h2 : comR 23 11 4 2 3 9 2 3 = 3 := by decide +kernel
  have h3 : givE 23 11 4 2 3 9 [5, 4] [] = 0 := by decide +kernel
  have h4 : comR 23 11 4 2 3 9 5 4 = 3 := by decide +kernel
  have H1 := hid h1
  have H2 := hid h2
  have H3 := hid h3
  have H4 := hid h4
  clear h1 h2 h3 h4
  go_enter Tryd.func61, Tryd.ntmps61
  go_wp2_with fail
  have HA := hid (bas_reads (o := .cells #[.int .i64 23, .int .i64 11, .int .i64 4, .int .i64 2, .int .i64 3, .int .i64 9] 73) rfl (Up.refl (w.alloc _)))
  refine (Commit_any 23 11 4 2 3 9 2 3 _ (by omega) (by omega) (HT.out.up ((Up.refl w).alloc _))).mono ?_
  rintro e w1 ⟨rfl, hU1⟩
  rw [H1.out, H2.out]
  have HA1 := hid (HA.out.up hU1)
  have HU1 := hid (((Up.refl w).alloc _).trans hU1)
  clear hU1 HA
  obtain ⟨⟨c0, c1, c2⟩, c3, c4, c5⟩ := HA1.out
  go_wp2_with fail
  refine (Other15 _ (HT.out.up HU1.out)).mono ?_
  rintro e w2 ⟨rfl, hU2⟩
  have HA2 := hid (HA1.out.up hU2)
  have HU2 := hid (HU1.out.trans hU2)
  clear hU2 c0 c1 c2 c3 c4 c5 HA1
  obtain ⟨⟨c0, c1, c2⟩, c3, c4, c5⟩ := HA2.out
  go_wp2_with fail
  refine (Open_any 23 11 4 2 3 9 3 5 4 _ (by omega) (by omega) (HT.out.up HU2.out)).mono ?_
  rintro e w3 ⟨rfl, hU3⟩
  rw [H3.out, H4.out]
  go_wp2
  go_ret
  exact ⟨rfl, HU2.out.trans hU3⟩

theorem second_grp {w w1 : World} {o : Obj} {P Q G : Int} (hU : Up ((w.alloc o).alloc (.cells #[.int .i64 P, .int .i64 Q, .int .i64 G] 23)) w1) : GrpAt w1 (w.heap.size + 1) P Q G := by
  have h := box_reads (w := w.alloc o) rfl hU
  simpa using h

theorem rbValid_any (P Q G A B C : Int) (w : World) (hP : -9223372036854775808 ≤ P) (hQ : Q ≤ 9223372036854775807) :
    Calls Tryd.prog 65 #[bas P Q G A B C] w fun e w' => e = .returned (.bool (bvB P Q G A B C)) ∧ Up w w' := by
  have HB : Hid (bvB P Q G A B C = (gvB P Q G && (A != 1) && (B != 1) && (C != 1) && elB P Q A && elB P Q B && elB P Q C)) := hid (by
    simp only [bvB, gnB, List.all_cons, List.all_nil, Bool.and_true]
    cases gvB P Q G <;> cases (A != 1) <;> cases (B != 1) <;> cases (C != 1) <;> cases elB P Q A <;> cases elB P Q B <;> rfl)
  generalize bvB P Q G A B C = X at *
  go_enter Tryd.func65, Tryd.ntmps65
  go_wp2_with fail
  have HA := hid ((bas_reads (o := .cells #[.int .i64 P, .int .i64 Q, .int .i64 G, .int .i64 A, .int .i64 B, .int .i64 C] 73) rfl ((Up.refl (w.alloc _)).alloc (.cells #[.int .i64 P, .int .i64 Q, .int .i64 G] 23))))
  have HG := hid (second_grp (w := w) (o := .cells #[.int .i64 P, .int .i64 Q, .int .i64 G, .int .i64 A, .int .i64 B, .int .i64 C] 73) (P := P) (Q := Q) (G := G) (Up.refl _))
  refine (rValid_any P Q G _ hP hQ).mono ?_
  rintro e w1 ⟨rfl, hU1⟩
  have HA1 := hid (HA.out.up hU1)
  have HG1 := hid (HG.out.up hU1)
  have HU1 := hid ((((Up.refl w).alloc _).alloc _).trans hU1)
  clear hU1 HA HG
  obtain ⟨⟨c0, c1, c2⟩, c3, c4, c5⟩ := HA1.out
  obtain ⟨e0, e1, e2⟩ := HG1.out
  by_cases hg : gvB P Q G = true
  case neg =>
    have hg' : gvB P Q G = false := by simpa using hg
    have hX : X = false := by rw [HB.out, hg']; rfl
    subst hX
    rw [hg']
    clear hg hg'
    go_wp2
    go_ret
    exact ⟨rfl, HU1.out⟩
  have g := gv_iff.1 hg
  have g1 := g.P61
  have g2 := g.P4
  have g3 := g.Q3
  have HB1 : Hid (X = ((A != 1) && (B != 1) && (C != 1) && elB P Q A && elB P Q B && elB P Q C)) := hid (by rw [HB.out, hg]; rfl)
  rw [hg]
  clear hg g HB
  by_cases ha : A = 1
  case pos =>
    have d : (A != 1) = false := by simp [ha]
    have hX : X = false := by rw [HB1.out, d]; rfl
    subst hX
    clear ha
    go_wp2
    go_ret
    exact ⟨rfl, HU1.out⟩
  have da : (A != 1) = true := by simpa using ha
  by_cases hb : B = 1
  case pos =>
    have d : (B != 1) = false := by simp [hb]
    have hX : X = false := by rw [HB1.out, da, d]; rfl
    subst hX
    clear ha hb
    go_wp2
    go_ret
    exact ⟨rfl, HU1.out⟩
  have db : (B != 1) = true := by simpa using hb
  by_cases hc : C = 1
  case pos =>
    have d : (C != 1) = false := by simp [hc]
    have hX : X = false := by rw [HB1.out, da, db, d]; rfl
    subst hX
    clear ha hb hc
    go_wp2
    go_ret
    exact ⟨rfl, HU1.out⟩
  have dc : (C != 1) = true := by simpa using hc
  have HB2 : Hid (X = (elB P Q A && elB P Q B && elB P Q C)) := hid (by rw [HB1.out, da, db, dc]; rfl)
  clear ha hb hc HB1
  go_wp2_with fail
  refine (rMember_any P Q G A _ g1 (by omega) hQ).mono ?_
  rintro e w2 ⟨rfl, hU2⟩
  have HA2 := hid (HA1.out.up hU2)
  have HG2 := hid (HG1.out.up hU2)
  have HU2 := hid (HU1.out.trans hU2)
  clear hU2 c0 c1 c2 c3 c4 c5 e0 e1 e2 HA1 HG1
  obtain ⟨⟨c0, c1, c2⟩, c3, c4, c5⟩ := HA2.out
  obtain ⟨e0, e1, e2⟩ := HG2.out
  by_cases h1 : elB P Q A = true
  case neg =>
    have h1' : elB P Q A = false := by simpa using h1
    have hX : X = false := by rw [HB2.out, h1']; rfl
    subst hX
    rw [h1']
    clear h1 h1'
    go_wp2
    go_ret
    exact ⟨rfl, HU2.out⟩
  have HB3 : Hid (X = (elB P Q B && elB P Q C)) := hid (by rw [HB2.out, h1]; rfl)
  rw [h1]
  clear h1 HB2
  go_wp2_with fail
  refine (rMember_any P Q G B _ g1 (by omega) hQ).mono ?_
  rintro e w3 ⟨rfl, hU3⟩
  have HA3 := hid (HA2.out.up hU3)
  have HG3 := hid (HG2.out.up hU3)
  have HU3 := hid (HU2.out.trans hU3)
  clear hU3 c0 c1 c2 c3 c4 c5 e0 e1 e2 HA2 HG2
  obtain ⟨⟨c0, c1, c2⟩, c3, c4, c5⟩ := HA3.out
  obtain ⟨e0, e1, e2⟩ := HG3.out
  by_cases h2 : elB P Q B = true
  case neg =>
    have h2' : elB P Q B = false := by simpa using h2
    have hX : X = false := by rw [HB3.out, h2']; rfl
    subst hX
    rw [h2']
    clear h2 h2'
    go_wp2
    go_ret
    exact ⟨rfl, HU3.out⟩
  have HB4 : Hid (X = elB P Q C) := hid (by rw [HB3.out, h2]; rfl)
  rw [h2]
  clear h2 HB3
  go_wp2_with fail
  refine (rMember_any P Q G C _ g1 (by omega) hQ).mono ?_
  rintro e w4 ⟨rfl, hU4⟩
  rw [← HB4.out]
  go_wp2
  go_ret
  exact ⟨rfl, HU3.out.trans hU4⟩

theorem rCommit_ok (P Q G A B C m r : Int) (w : World) (hb : bvB P Q G A B C = true) (m0 : -9223372036854775808 ≤ m) (m1 : m ≤ 9223372036854775807) (r0 : -9223372036854775808 ≤ r) (r1 : r ≤ 9223372036854775807) :
    Calls Tryd.prog 67 #[bas P Q G A B C, .int .i64 m, .int .i64 r] w fun e w' => e = .returned (.int .i64 (comV P Q G C m r)) ∧ Up w w' := by
  obtain ⟨hg, _, _, _, hc⟩ := bv_iff.1 hb
  have g := gv_iff.1 hg
  have g1 := g.P61
  have g2 := g.P4
  have g3 := g.Q3
  have g4 := g.QP
  have g5 := g.G2
  have g6 := g.GP
  obtain ⟨h0, h1, _⟩ := el_iff.1 hc
  have HV : Hid (comV P Q G C m r = gpw P Q G m * gpw P Q C r % P) := hid rfl
  obtain ⟨x0, x1⟩ := gpw_nonneg (P := P) (Q := Q) (a := G) (m := m) (by omega)
  obtain ⟨y0, y1⟩ := gpw_nonneg (P := P) (Q := Q) (a := C) (m := r) (by omega)
  have HX := hid (fun w' => rgPower_ok P Q G G m w' (by omega) g6 m0 m1 g1 (by omega) (by omega))
  have HY := hid (fun w' => rgPower_ok P Q G C r w' (by omega) h1 r0 r1 g1 (by omega) (by omega))
  generalize gpw P Q G m = x at *
  generalize gpw P Q C r = y at *
  clear hg g hc hb
  go_enter Tryd.func67, Tryd.ntmps67
  go_wp2_with fail
  obtain ⟨⟨c0, c1, c2⟩, c3, c4, c5⟩ := ((bas_reads (w := w) (o := .cells #[.int .i64 P, .int .i64 Q, .int .i64 G, .int .i64 A, .int .i64 B, .int .i64 C] 73) rfl ((Up.refl (w.alloc _)).alloc (.cells #[.int .i64 P, .int .i64 Q, .int .i64 G] 23))))
  obtain ⟨e0, e1, e2⟩ := (second_grp (w := w) (o := .cells #[.int .i64 P, .int .i64 Q, .int .i64 G, .int .i64 A, .int .i64 B, .int .i64 C] 73) (P := P) (Q := Q) (G := G) (Up.refl _))
  have f0 := cellF e0
  have f1 := cellF e1
  have f2 := cellF e2
  have f3 := cellF c5
  clear c0 c1 c2 c3 c4 c5 e0 e1 e2
  refine wp_region_up (by kernel_rfl) (by kernel_rfl) ?_
  repeat (go_big_quiet_step ((first
    | (go_at_call_of 29 m; exact Calls.up_of (HX.out _))
    | (go_at_call_of 29 r; exact Calls.up_of (HY.out _))
    | (go_at_call 30; exact Calls.up_of (rgMul_ok P Q G x y _ x0 x1 y0 y1 g1)))))
  refine wpQuiet_nil ?_
  rintro _ ⟨p, rfl⟩
  go_wp2
  go_ret
  exact ⟨by rw [HV.out]; rfl, (((Up.refl w).alloc _).alloc _).trans p.up⟩
end Go.Proofs.YtldodbffdegmiaaDoor
