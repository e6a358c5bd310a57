/- Restrictive signatures: keys, offers, answers. Restrictive signatures: offers and answers. The reference's restrictive signatures: messages, keys, offers, answers. Restrictive signatures: factors, lists of elements, products, views. The reference's restrictive signatures: factors, views. -/
import Derived.Test.YtoaomjdpiealfaaDoorMB13
import Derived.IntWalk
namespace Go.Proofs.YtoaomjdpiealfaaDoor
open Go.RowKit Go.Sp
set_option maxHeartbeats 2000000
set_option maxRecDepth 20000

/-- The error of bases (are they valid?) and further arguments (are they in range?). -/
def errE (bv ok : Bool) : Int := if bv = true then (if ok = true then 0 else 2) else 1
/-- A value, or 0 beside an error. -/
def orZ (E v : Int) : Int := if E = 0 then v else 0

theorem three_reads {w w1 : World} {o : Obj} {x y z : Int} {t : TypeId} (hU : Up ((w.alloc o).alloc (.cells #[.int .i64 x, .int .i64 y, .int .i64 z] t)) w1) : GrpAt w1 (w.heap.size + 1) x y z := by
  have h : GrpAt ((w.alloc o).alloc (.cells #[.int .i64 x, .int .i64 y, .int .i64 z] t)) (w.heap.size + 1) x y z :=
    ⟨by go_simp, by go_simp, by go_simp⟩
  exact h.up hU

theorem gn_el {P Q x : Int} (h : gnB P Q x = true) : elB P Q x = true := by
  simp only [gnB, Bool.and_eq_true] at h; exact h.2

theorem blk_three {w : World} {r : Nat} {t : TypeId} {a b c : Value} (h : Blk w r t #[a, b, c]) (x y z : Value) : Blk (((w.setCell ⟨r, 0, none⟩ x).setCell ⟨r, 1, none⟩ y).setCell ⟨r, 2, none⟩ z) r t #[x, y, z] :=
  ((h.wrote 0 x).wrote 1 y).wrote 2 z

/-- What the region of Key keeps. -/
theorem keepB {w0 w w' : World} {o : Nat} {P Q G A B C : Int} (hU : Up w w')
    (h : w.cell? ⟨o, 0, none⟩ = some (.int .i64 P) ∧ w.cell? ⟨o, 1, none⟩ = some (.int .i64 Q) ∧ w.cell? ⟨o, 2, none⟩ = some (.int .i64 G) ∧ w.cell? ⟨o, 3, none⟩ = some (.int .i64 A) ∧ w.cell? ⟨o, 4, none⟩ = some (.int .i64 B) ∧ w.cell? ⟨o, 5, none⟩ = some (.int .i64 C) ∧ Hid (Up w0 w)) :
    w'.cell? ⟨o, 0, none⟩ = some (.int .i64 P) ∧ w'.cell? ⟨o, 1, none⟩ = some (.int .i64 Q) ∧ w'.cell? ⟨o, 2, none⟩ = some (.int .i64 G) ∧ w'.cell? ⟨o, 3, none⟩ = some (.int .i64 A) ∧ w'.cell? ⟨o, 4, none⟩ = some (.int .i64 B) ∧ w'.cell? ⟨o, 5, none⟩ = some (.int .i64 C) ∧ Hid (Up w0 w') :=
  ⟨cellUp hU h.1, cellUp hU h.2.1, cellUp hU h.2.2.1, cellUp hU h.2.2.2.1, cellUp hU h.2.2.2.2.1, cellUp hU h.2.2.2.2.2.1, hid (h.2.2.2.2.2.2.out.trans hU)⟩

theorem keepBStore {w0 w w' : World} {o r : Nat} {P Q G A B C : Int} {x y z : Value} (hr : o ≠ r) (hb : w0.heap.size ≤ r) (hw : w' = ((w.setCell ⟨r, 0, none⟩ x).setCell ⟨r, 1, none⟩ y).setCell ⟨r, 2, none⟩ z)
    (h : w.cell? ⟨o, 0, none⟩ = some (.int .i64 P) ∧ w.cell? ⟨o, 1, none⟩ = some (.int .i64 Q) ∧ w.cell? ⟨o, 2, none⟩ = some (.int .i64 G) ∧ w.cell? ⟨o, 3, none⟩ = some (.int .i64 A) ∧ w.cell? ⟨o, 4, none⟩ = some (.int .i64 B) ∧ w.cell? ⟨o, 5, none⟩ = some (.int .i64 C) ∧ Hid (Up w0 w)) :
    w'.cell? ⟨o, 0, none⟩ = some (.int .i64 P) ∧ w'.cell? ⟨o, 1, none⟩ = some (.int .i64 Q) ∧ w'.cell? ⟨o, 2, none⟩ = some (.int .i64 G) ∧ w'.cell? ⟨o, 3, none⟩ = some (.int .i64 A) ∧ w'.cell? ⟨o, 4, none⟩ = some (.int .i64 B) ∧ w'.cell? ⟨o, 5, none⟩ = some (.int .i64 C) ∧ Hid (Up w0 w') := by
  subst hw
  obtain ⟨h0, h1, h2, h3, h4, h5, hU⟩ := h
  have key : ∀ i, (((w.setCell ⟨r, 0, none⟩ x).setCell ⟨r, 1, none⟩ y).setCell ⟨r, 2, none⟩ z).cell? ⟨o, i, none⟩ = w.cell? ⟨o, i, none⟩ := fun i => by
    rw [World.cell?_setCell_other, World.cell?_setCell_other, World.cell?_setCell_other] <;> exact fun h => hr (congrArg Addr.block h).symm
  refine ⟨(key _).trans h0, (key _).trans h1, (key _).trans h2, (key _).trans h3, (key _).trans h4, (key _).trans h5, hid (((hU.out.setCell ?_ _).setCell ?_ _).setCell ?_ _)⟩ <;> exact hb

theorem keptUp {w0 w : World} {a b c d e f : Prop} (h : a ∧ b ∧ c ∧ d ∧ e ∧ f ∧ Hid (Up w0 w)) : Up w0 w := h.2.2.2.2.2.2.out

theorem resKey_any (P Q G A B C x : Int) (w : World) (hP : -9223372036854775808 ≤ P) (hQ : Q ≤ 9223372036854775807) (hT : Tab w) :
    Calls Tryd.prog 53 #[bas P Q G A B C, .int .i64 x] w fun e w' => e = .returned (.tuple #[bkey (orZ (errE (bvB P Q G A B C) (nzB Q x)) (pwi P G x)) (orZ (errE (bvB P Q G A B C) (nzB Q x)) (pwi P A x)) (orZ (errE (bvB P Q G A B C) (nzB Q x)) (pwi P B x)), .int .i64 (errE (bvB P Q G A B C) (nzB Q x))]) ∧ Up w w' := by
  have HT := hid hT
  clear hT
  go_enter Tryd.func53, Tryd.ntmps53
  go_wp2_with fail
  have HA := hid (bas_reads (o := .cells #[.int .i64 P, .int .i64 Q, .int .i64 G, .int .i64 A, .int .i64 B, .int .i64 C] 25) rfl ((Up.refl (w.alloc _)).alloc (.cells #[.int .i64 0, .int .i64 0, .int .i64 0] 29)))
  have HZ := hid (Blk.new (w := w.alloc (.cells #[.int .i64 P, .int .i64 Q, .int .i64 G, .int .i64 A, .int .i64 B, .int .i64 C] 25)) (t := 29) (cs := #[.int .i64 0, .int .i64 0, .int .i64 0]) (g := w.heap.size + 1) (by simp) rfl)
  refine (bValid_any P Q G A B C _ hP hQ (HT.out.up (((Up.refl w).alloc _).alloc _))).mono ?_
  rintro e w1 ⟨rfl, hU1⟩
  have HA1 := hid (HA.out.up hU1)
  have HZ1 := hid (HZ.out.up hU1)
  have HU1 := hid ((((Up.refl w).alloc _).alloc _).trans hU1)
  clear hU1 HA HZ
  obtain ⟨⟨c0, c1, c2⟩, c3, c4, c5⟩ := HA1.out
  have z0 := HZ1.out.val (i := 0) rfl
  have z1 := HZ1.out.val (i := 1) rfl
  have z2 := HZ1.out.val (i := 2) rfl
  have y0 := HZ1.out.thawed 0
  have y1 := HZ1.out.thawed 1
  have y2 := HZ1.out.thawed 2
  by_cases hg : bvB P Q G A B C = true
  case neg =>
    have hg' : bvB P Q G A B C = false := by simpa using hg
    have Hg := hid hg'
    rw [hg']
    clear hg hg'
    go_wp2
    refine bodyPost_ret (v := .tuple #[bkey 0 0 0, .int .i64 1]) (results_row_tmp Tryd.results53 _ _ (w.heap.size + 1) 29 _ (0, 0) _ (by rfl) (blk_three HZ1.out _ _ _) Tryd.underlying29 rfl (by kernel_rfl)) rfl ⟨by rw [Hg.out]; rfl, ((HU1.out.setCell ?_ _).setCell ?_ _).setCell ?_ _⟩ <;> simp
  have Hb := hid hg
  obtain ⟨hg1, ha, hb, hc⟩ := bv_iff.1 hg
  have g := gv_iff.1 hg1
  have g1 := g.P61
  have g2 := g.P4
  have g3 := g.Q3
  have g4 := g.QP
  have g5 := g.G2
  have g6 := g.GP
  rw [hg]
  clear hg g
  go_wp2_with fail
  refine (resNonzero_any P Q G A B C x _).mono ?_
  rintro e w2 ⟨rfl, hU2⟩
  have HA2 := hid (HA1.out.up hU2)
  have HZ2 := hid (HZ1.out.up hU2)
  have HU2 := hid (HU1.out.trans hU2)
  clear hU2 HA1 HZ1 c0 c1 c2 c3 c4 c5 z0 z1 z2 y0 y1 y2
  obtain ⟨⟨c0, c1, c2⟩, c3, c4, c5⟩ := HA2.out
  by_cases hx : nzB Q x = true
  case neg =>
    have hx' : nzB Q x = false := by simpa using hx
    have z0 := HZ2.out.val (i := 0) rfl
    have z1 := HZ2.out.val (i := 1) rfl
    have z2 := HZ2.out.val (i := 2) rfl
    have y0 := HZ2.out.thawed 0
    have y1 := HZ2.out.thawed 1
    have y2 := HZ2.out.thawed 2
    have Hx := hid hx'
    rw [hx']
    clear hx hx'
    go_wp2
    refine bodyPost_ret (v := .tuple #[bkey 0 0 0, .int .i64 2]) (results_row_tmp Tryd.results53 _ _ (w.heap.size + 1) 29 _ (0, 0) _ (by rfl) (blk_three HZ2.out _ _ _) Tryd.underlying29 rfl (by kernel_rfl)) rfl ⟨by rw [Hb.out, Hx.out]; rfl, ((HU2.out.setCell ?_ _).setCell ?_ _).setCell ?_ _⟩ <;> simp
  obtain ⟨x0, x1⟩ := nzB_iff.1 hx
  have Hx := hid hx
  rw [hx]
  clear hx
  obtain ⟨ha0, ha1, _⟩ := el_iff.1 ha.2
  obtain ⟨hb0, hb1, _⟩ := el_iff.1 hb.2
  have M1 := hid (fun w' => resPower_ok P Q G A B C G x w' (by omega) g6 (by omega) (by omega) g1)
  have M2 := hid (fun w' => resPower_ok P Q G A B C A x w' (by omega) ha1 (by omega) (by omega) g1)
  have M3 := hid (fun w' => resPower_ok P Q G A B C B x w' (by omega) hb1 (by omega) (by omega) g1)
  obtain ⟨X, hX⟩ : ∃ X, pwi P G x = X := ⟨_, rfl⟩
  obtain ⟨Y, hY⟩ : ∃ Y, pwi P A x = Y := ⟨_, rfl⟩
  obtain ⟨Z, hZ⟩ : ∃ Z, pwi P B x = Z := ⟨_, rfl⟩
  rw [hX] at M1
  rw [hY] at M2
  rw [hZ] at M3
  have HX := hid hX
  have HY := hid hY
  have HZv := hid hZ
  clear hX hY hZ
  clear ha hb hc hg1 x0 x1 g1 g2 g3 g4 g5 g6 ha0 ha1 hb0 hb1 hP hQ
  go_wp2_with fail
  have hS0 := And.intro c0 (And.intro c1 (And.intro c2 (And.intro c3 (And.intro c4 (And.intro c5 HU2)))))
  have hS1 := keepB (Up.refl w2).drew hS0
  clear c0 c1 c2 c3 c4 c5
  have hro : w.heap.size ≠ w.heap.size + 1 := by omega
  have hrb : w.heap.size ≤ w.heap.size + 1 := by omega
  go_region_held3 (fun w' => w'.cell? ⟨w.heap.size, 0, none⟩ = some (.int .i64 P) ∧ w'.cell? ⟨w.heap.size, 1, none⟩ = some (.int .i64 Q) ∧ w'.cell? ⟨w.heap.size, 2, none⟩ = some (.int .i64 G) ∧ w'.cell? ⟨w.heap.size, 3, none⟩ = some (.int .i64 A) ∧ w'.cell? ⟨w.heap.size, 4, none⟩ = some (.int .i64 B) ∧ w'.cell? ⟨w.heap.size, 5, none⟩ = some (.int .i64 C) ∧ Hid (Up w w')) (first | exact hS0 | exact hS1 | exact keepBStore hro hrb rfl (by assumption) | exact keepB (by assumption) (by assumption)) (first
    | ((with_reducible (show Calls _ _ #[_, .int .i64 G, _] _ _)); refine (M1.out _).mono ?_; rintro e w3 ⟨rfl, hU3⟩; have hZ3 := HZ2.out.up (Up.trans (by first | exact (Up.refl w2).drew | exact Up.refl w2) hU3))
    | ((with_reducible (show Calls _ _ #[_, .int .i64 A, _] _ _)); refine (M2.out _).mono ?_; rintro e w4 ⟨rfl, hU4⟩; have hZ4 := hZ3.up hU4)
    | ((with_reducible (show Calls _ _ #[_, .int .i64 B, _] _ _)); refine (M3.out _).mono ?_; rintro e w5 ⟨rfl, hU5⟩; have hZ5 := hZ4.up hU5; have z0 := hZ5.val (i := 0) rfl; have z1 := hZ5.val (i := 1) rfl; have z2 := hZ5.val (i := 2) rfl; have y0 := hZ5.thawed 0; have y1 := hZ5.thawed 1; have y2 := hZ5.thawed 2))
  have hZ6 := blk_three hZ5 (.int .i64 X) (.int .i64 Y) (.int .i64 Z)
  go_wp2
  refine bodyPost_ret (v := .tuple #[bkey X Y Z, .int .i64 0]) (results_row_tmp Tryd.results53 _ _ (w.heap.size + 1) 29 _ (0, 0) _ (by rfl) hZ6 Tryd.underlying29 rfl (by kernel_rfl)) rfl ⟨?_, keptUp (by assumption)⟩
  rw [Hb.out, Hx.out, HX.out, HY.out, HZv.out]
  rfl

/-- A key that is valid for bases. -/
def kvB (P Q G A B C x y z : Int) : Bool := bvB P Q G A B C && (gnB P Q x && (gnB P Q y && gnB P Q z))

theorem resValid_any (P Q G A B C x y z : Int) (w : World) (hP : -9223372036854775808 ≤ P) (hQ : Q ≤ 9223372036854775807) (hT : Tab w) :
    Calls Tryd.prog 29 #[bas P Q G A B C, bkey x y z] w fun e w' => e = .returned (.bool (kvB P Q G A B C x y z)) ∧ Up w w' := by
  have HT := hid hT
  have HB : Hid (kvB P Q G A B C x y z = (bvB P Q G A B C && (gnB P Q x && (gnB P Q y && gnB P Q z)))) := hid rfl
  generalize kvB P Q G A B C x y z = X at *
  clear hT
  go_enter Tryd.func29, Tryd.ntmps29
  go_wp2_with fail
  have HA := hid (bas_reads (o := .cells #[.int .i64 P, .int .i64 Q, .int .i64 G, .int .i64 A, .int .i64 B, .int .i64 C] 25) rfl ((Up.refl (w.alloc _)).alloc (.cells #[.int .i64 x, .int .i64 y, .int .i64 z] 29)))
  have HK := hid (three_reads (w := w) (o := .cells #[.int .i64 P, .int .i64 Q, .int .i64 G, .int .i64 A, .int .i64 B, .int .i64 C] 25) (x := x) (y := y) (z := z) (t := 29) (Up.refl _))
  refine (bValid_any P Q G A B C _ hP hQ (HT.out.up (((Up.refl w).alloc _).alloc _))).mono ?_
  rintro e w1 ⟨rfl, hU1⟩
  have HA1 := hid (HA.out.up hU1)
  have HK1 := hid (HK.out.up hU1)
  have HU1 := hid ((((Up.refl w).alloc _).alloc _).trans hU1)
  clear hU1 HA HK
  obtain ⟨⟨c0, c1, c2⟩, c3, c4, c5⟩ := HA1.out
  obtain ⟨e0, e1, e2⟩ := HK1.out
  by_cases hg : bvB P Q G A B C = true
  case neg =>
    have hg' : bvB P Q G A B C = false := by simpa using hg
    have hX : X = false := by rw [HB.out, hg']; rfl
    subst hX
    rw [hg']
    clear hg hg'
    go_wp2
    go_ret
    exact ⟨rfl, HU1.out⟩
  have g := gv_iff.1 (bv_iff.1 hg).1
  have g1 := g.P61
  have g3 := g.Q3
  have HB1 : Hid (X = (gnB P Q x && (gnB P Q y && gnB P Q z))) := hid (by rw [HB.out, hg]; rfl)
  rw [hg]
  clear hg g HB
  go_wp2_with fail
  refine (resMessage_any P Q G A B C x _ g1 (by omega) hQ).mono ?_
  rintro e w2 ⟨rfl, hU2⟩
  have HA2 := hid (HA1.out.up hU2)
  have HK2 := hid (HK1.out.up hU2)
  have HU2 := hid (HU1.out.trans hU2)
  clear hU2 c0 c1 c2 c3 c4 c5 e0 e1 e2 HA1 HK1
  obtain ⟨⟨c0, c1, c2⟩, c3, c4, c5⟩ := HA2.out
  obtain ⟨e0, e1, e2⟩ := HK2.out
  by_cases h1 : gnB P Q x = true
  case neg =>
    have h1' : gnB P Q x = false := by simpa using h1
    have hX : X = false := by rw [HB1.out, h1']; rfl
    subst hX
    rw [h1']
    clear h1 h1'
    go_wp2
    go_ret
    exact ⟨rfl, HU2.out⟩
  have HB3 : Hid (X = (gnB P Q y && gnB P Q z)) := hid (by rw [HB1.out, h1]; rfl)
  rw [h1]
  clear h1 HB1
  go_wp2_with fail
  refine (resMessage_any P Q G A B C y _ g1 (by omega) hQ).mono ?_
  rintro e w3 ⟨rfl, hU3⟩
  have HA3 := hid (HA2.out.up hU3)
  have HK3 := hid (HK2.out.up hU3)
  have HU3 := hid (HU2.out.trans hU3)
  clear hU3 c0 c1 c2 c3 c4 c5 e0 e1 e2 HA2 HK2
  obtain ⟨⟨c0, c1, c2⟩, c3, c4, c5⟩ := HA3.out
  obtain ⟨e0, e1, e2⟩ := HK3.out
  by_cases h2 : gnB P Q y = true
  case neg =>
    have h2' : gnB P Q y = false := by simpa using h2
    have hX : X = false := by rw [HB3.out, h2']; rfl
    subst hX
    rw [h2']
    clear h2 h2'
    go_wp2
    go_ret
    exact ⟨rfl, HU3.out⟩
  have HB4 : Hid (X = gnB P Q z) := hid (by rw [HB3.out, h2]; rfl)
  rw [h2]
  clear h2 HB3
  go_wp2_with fail
  refine (resMessage_any P Q G A B C z _ g1 (by omega) hQ).mono ?_
  rintro e w4 ⟨rfl, hU4⟩
  rw [← HB4.out]
  go_wp2
  go_ret
  exact ⟨rfl, HU3.out.trans hU4⟩
end Go.Proofs.YtoaomjdpiealfaaDoor
namespace Go.Proofs.YtoaomjdpiealfaaDoor
open Go.RowKit Go.Sp
set_option maxHeartbeats 2000000
set_option maxRecDepth 20000

theorem results_tmp4 {fn : Func} {t u v x : Tmp} (h : fn.results = #[.tmp t, .tmp u, .tmp v, .tmp x]) (tmps : Array Value) (P : Program) (w : World) :
    (results fn tmps).run P w = .ok (.tuple #[tmps.getD t undef, tmps.getD u undef, tmps.getD v undef, tmps.getD x undef]) w := by
  simp [results, h]

end Go.Proofs.YtoaomjdpiealfaaDoor
namespace Go.Proofs.YtoaomjdpiealfaaDoor
open Go.RowKit Go.Sp
set_option maxHeartbeats 2000000
set_option maxRecDepth 20000

theorem r25Message_any (P Q G x : Int) (w : World) (g1 : P < 2305843009213693952) (g3 : 0 ≤ Q) (hQ : Q ≤ 9223372036854775807) :
    Calls Tryd.prog 57 #[grp P Q G, .int .i64 x] w fun e w' => e = .returned (.bool (gnB P Q x)) ∧ Up w w' := by
  by_cases hx : x = 1
  · have d1 : (x != 1) = false := by simpa using hx
    have hB : gnB P Q x = false := by simp [gnB, hx]
    rw [hB]
    clear hx hB
    go_enter Tryd.func57, Tryd.ntmps57
    go_wp2
    go_ret
    exact ⟨rfl, (Up.refl w).alloc _⟩
  · have d1 : (x != 1) = true := by simpa using hx
    have hB : gnB P Q x = elB P Q x := by simp [gnB, hx]
    rw [hB]
    clear hx hB
    go_enter Tryd.func57, Tryd.ntmps57
    go_wp2_with fail
    refine (rMember_any P Q G x _ g1 g3 hQ).mono ?_
    rintro e w3 ⟨rfl, hU3⟩
    go_wp2
    go_ret
    exact ⟨rfl, ((Up.refl w).alloc _).trans hU3⟩

theorem r25Valid_any (P Q G A B C x y z : Int) (w : World) (hP : -9223372036854775808 ≤ P) (hQ : Q ≤ 9223372036854775807) :
    Calls Tryd.prog 30 #[bas P Q G A B C, bkey x y z] w fun e w' => e = .returned (.bool (kvB P Q G A B C x y z)) ∧ Up w w' := by
  have HB : Hid (kvB P Q G A B C x y z = (bvB P Q G A B C && (gnB P Q x && (gnB P Q y && gnB P Q z)))) := hid rfl
  generalize kvB P Q G A B C x y z = X at *
  go_enter Tryd.func30, Tryd.ntmps30
  go_wp2_with fail
  have HA := hid (bas_reads (o := .cells #[.int .i64 P, .int .i64 Q, .int .i64 G, .int .i64 A, .int .i64 B, .int .i64 C] 25) rfl ((Up.refl (w.alloc _)).alloc (.cells #[.int .i64 x, .int .i64 y, .int .i64 z] 29)))
  have HK := hid (three_reads (w := w) (o := .cells #[.int .i64 P, .int .i64 Q, .int .i64 G, .int .i64 A, .int .i64 B, .int .i64 C] 25) (x := x) (y := y) (z := z) (t := 29) (Up.refl _))
  refine (rbValid_any P Q G A B C _ hP hQ).mono ?_
  rintro e w1 ⟨rfl, hU1⟩
  have HA1 := hid (HA.out.up hU1)
  have HK1 := hid (HK.out.up hU1)
  have HU1 := hid ((((Up.refl w).alloc _).alloc _).trans hU1)
  clear hU1 HA HK
  obtain ⟨⟨c0, c1, c2⟩, c3, c4, c5⟩ := HA1.out
  obtain ⟨e0, e1, e2⟩ := HK1.out
  by_cases hg : bvB P Q G A B C = true
  case neg =>
    have hg' : bvB P Q G A B C = false := by simpa using hg
    have hX : X = false := by rw [HB.out, hg']; rfl
    subst hX
    rw [hg']
    clear hg hg'
    go_wp2
    go_ret
    exact ⟨rfl, HU1.out⟩
  have g := gv_iff.1 (bv_iff.1 hg).1
  have g1 := g.P61
  have g3 := g.Q3
  have HB1 : Hid (X = (gnB P Q x && (gnB P Q y && gnB P Q z))) := hid (by rw [HB.out, hg]; rfl)
  rw [hg]
  clear hg g HB
  go_wp2_with fail
  refine (r25Message_any P Q G x _ g1 (by omega) hQ).mono ?_
  rintro e w2 ⟨rfl, hU2⟩
  have HA2 := hid (HA1.out.up hU2)
  have HK2 := hid (HK1.out.up hU2)
  have HU2 := hid (HU1.out.trans hU2)
  clear hU2 c0 c1 c2 c3 c4 c5 e0 e1 e2 HA1 HK1
  obtain ⟨⟨c0, c1, c2⟩, c3, c4, c5⟩ := HA2.out
  obtain ⟨e0, e1, e2⟩ := HK2.out
  by_cases h1 : gnB P Q x = true
  case neg =>
    have h1' : gnB P Q x = false := by simpa using h1
    have hX : X = false := by rw [HB1.out, h1']; rfl
    subst hX
    rw [h1']
    clear h1 h1'
    go_wp2
    go_ret
    exact ⟨rfl, HU2.out⟩
  have HB2 : Hid (X = (gnB P Q y && gnB P Q z)) := hid (by rw [HB1.out, h1]; rfl)
  rw [h1]
  clear h1 HB1
  go_wp2_with fail
  refine (r25Message_any P Q G y _ g1 (by omega) hQ).mono ?_
  rintro e w3 ⟨rfl, hU3⟩
  have HA3 := hid (HA2.out.up hU3)
  have HK3 := hid (HK2.out.up hU3)
  have HU3 := hid (HU2.out.trans hU3)
  clear hU3 c0 c1 c2 c3 c4 c5 e0 e1 e2 HA2 HK2
  obtain ⟨⟨c0, c1, c2⟩, c3, c4, c5⟩ := HA3.out
  obtain ⟨e0, e1, e2⟩ := HK3.out
  by_cases h1 : gnB P Q y = true
  case neg =>
    have h1' : gnB P Q y = false := by simpa using h1
    have hX : X = false := by rw [HB2.out, h1']; rfl
    subst hX
    rw [h1']
    clear h1 h1'
    go_wp2
    go_ret
    exact ⟨rfl, HU3.out⟩
  have HB3 : Hid (X = (gnB P Q z)) := hid (by rw [HB2.out, h1]; rfl)
  rw [h1]
  clear h1 HB2
  go_wp2_with fail
  refine (r25Message_any P Q G z _ g1 (by omega) hQ).mono ?_
  rintro e w4 ⟨rfl, hU4⟩
  rw [← HB3.out]
  go_wp2
  go_ret
  exact ⟨rfl, HU3.out.trans hU4⟩

theorem keepC5Store {w0 w w' : World} {o : Nat} {P Q G A B : Int} {x y z : Value} (hb : w0.heap.size ≤ o) (hw : w' = ((w.setCell ⟨o + 1, 0, none⟩ x).setCell ⟨o + 1, 1, none⟩ y).setCell ⟨o + 1, 2, none⟩ z)
    (h : w.cell? ⟨o + 2, 0, none⟩ = some (.int .i64 P) ∧ w.cell? ⟨o + 2, 1, none⟩ = some (.int .i64 Q) ∧ w.cell? ⟨o + 2, 2, none⟩ = some (.int .i64 G) ∧ w.cell? ⟨o, 3, none⟩ = some (.int .i64 A) ∧ w.cell? ⟨o, 4, none⟩ = some (.int .i64 B) ∧ Hid (Up w0 w)) :
    w'.cell? ⟨o + 2, 0, none⟩ = some (.int .i64 P) ∧ w'.cell? ⟨o + 2, 1, none⟩ = some (.int .i64 Q) ∧ w'.cell? ⟨o + 2, 2, none⟩ = some (.int .i64 G) ∧ w'.cell? ⟨o, 3, none⟩ = some (.int .i64 A) ∧ w'.cell? ⟨o, 4, none⟩ = some (.int .i64 B) ∧ Hid (Up w0 w') := by
  subst hw
  obtain ⟨h0, h1, h2, h3, h4, hU⟩ := h
  have key : ∀ k i, k ≠ o + 1 → (((w.setCell ⟨o + 1, 0, none⟩ x).setCell ⟨o + 1, 1, none⟩ y).setCell ⟨o + 1, 2, none⟩ z).cell? ⟨k, i, none⟩ = w.cell? ⟨k, i, none⟩ := fun k i hk => by
    rw [World.cell?_setCell_other, World.cell?_setCell_other, World.cell?_setCell_other] <;> exact fun h => hk (congrArg Addr.block h).symm
  refine ⟨(key _ _ (by omega)).trans h0, (key _ _ (by omega)).trans h1, (key _ _ (by omega)).trans h2, (key _ _ (by omega)).trans h3, (key _ _ (by omega)).trans h4, hid (((hU.out.setCell ?_ _).setCell ?_ _).setCell ?_ _)⟩ <;> exact Nat.le_succ_of_le hb

end Go.Proofs.YtoaomjdpiealfaaDoor
namespace Go.Proofs.YtoaomjdpiealfaaDoor
open Go.RowKit Go.Sp
set_option maxHeartbeats 2000000
set_option maxRecDepth 20000

theorem nums_three {w : World} {r : Nat} {x y z : Int} {t : TypeId} (hr : w.heap.size = r) : GrpAt (w.alloc (.cells #[.int .i64 x, .int .i64 y, .int .i64 z] t)) r x y z := by
  subst hr
  exact ⟨by go_simp, by go_simp, by go_simp⟩
theorem nums_six {w : World} {r : Nat} {x y z a b c : Int} {t : TypeId} (hr : w.heap.size = r) : BasAt (w.alloc (.cells #[.int .i64 x, .int .i64 y, .int .i64 z, .int .i64 a, .int .i64 b, .int .i64 c] t)) r x y z a b c := by
  subst hr
  exact ⟨⟨by go_simp, by go_simp, by go_simp⟩, by go_simp, by go_simp, by go_simp⟩

/-- Valid blinding factors. -/
def facB (Q s u v : Int) : Bool := nzB Q s && (nzB Q u && exB Q v)

/-- Bases and factors, in two boxes. -/
def TwoAt (w : World) (o : Nat) (P Q G A B C s u v : Int) : Prop := BasAt w o P Q G A B C ∧ GrpAt w (o + 1) s u v
theorem TwoAt.up {w w' : World} {o : Nat} {P Q G A B C s u v : Int} (h : TwoAt w o P Q G A B C s u v) (hU : Up w w') : TwoAt w' o P Q G A B C s u v := ⟨h.1.up hU, h.2.up hU⟩

theorem pwi_one {P b : Int} (h0 : 0 ≤ b) (h1 : b < P) : pwi P b 1 = b := by
  show pw b 1 P = b
  exact pw_one_exp h0 h1

/-- A view as a value. -/
abbrev vw (m z x y c r : Int) : Value := .agg #[.int .i64 m, .int .i64 z, .int .i64 x, .int .i64 y, .int .i64 c, .int .i64 r]
/-- What holds of a right view, beyond the ranges. -/
def cvE (P G k1 m z x y c r : Int) : Bool := pwi P G r == pwi P k1 c * x % P && pwi P m r == pwi P z c * y % P
/-- A right view. -/
def cvB (P Q G A B C k1 k2 k3 m z x y c r : Int) : Bool :=
  kvB P Q G A B C k1 k2 k3 && (gnB P Q m && (elB P Q z && (elB P Q x && (elB P Q y && (nzB Q c && (exB Q r && cvE P G k1 m z x y c r))))))

/-- Bases, a key and a view, in three boxes. -/
def ViewsAt (w : World) (o : Nat) (P Q G A B C k1 k2 k3 m z x y c r : Int) : Prop := BasAt w o P Q G A B C ∧ GrpAt w (o + 1) k1 k2 k3 ∧ BasAt w (o + 2) m z x y c r
theorem ViewsAt.up {w w' : World} {o : Nat} {P Q G A B C k1 k2 k3 m z x y c r : Int} (h : ViewsAt w o P Q G A B C k1 k2 k3 m z x y c r) (hU : Up w w') : ViewsAt w' o P Q G A B C k1 k2 k3 m z x y c r := ⟨h.1.up hU, h.2.1.up hU, h.2.2.up hU⟩
theorem views_new {w : World} {o : Nat} {t t1 t2 : TypeId} {P Q G A B C k1 k2 k3 m z x y c r : Int} (ho : w.heap.size = o) :
    ViewsAt (((w.alloc (.cells #[.int .i64 P, .int .i64 Q, .int .i64 G, .int .i64 A, .int .i64 B, .int .i64 C] t)).alloc (.cells #[.int .i64 k1, .int .i64 k2, .int .i64 k3] t1)).alloc (.cells #[.int .i64 m, .int .i64 z, .int .i64 x, .int .i64 y, .int .i64 c, .int .i64 r] t2)) o P Q G A B C k1 k2 k3 m z x y c r :=
  ⟨(nums_six ho).up (((Up.refl _).alloc _).alloc _), (nums_three (by simp [ho])).up ((Up.refl _).alloc _), nums_six (by simp [ho])⟩

end Go.Proofs.YtoaomjdpiealfaaDoor
namespace Go.Proofs.YtoaomjdpiealfaaDoor
open Go.RowKit Go.Sp
set_option maxHeartbeats 2000000
set_option maxRecDepth 20000

/-- Bases, a key, a view and a group, in four boxes. -/
def FourAt (w : World) (o : Nat) (P Q G A B C k1 k2 k3 m z x y c r : Int) : Prop := ViewsAt w o P Q G A B C k1 k2 k3 m z x y c r ∧ GrpAt w (o + 3) P Q G
theorem FourAt.up {w w' : World} {o : Nat} {P Q G A B C k1 k2 k3 m z x y c r : Int} (h : FourAt w o P Q G A B C k1 k2 k3 m z x y c r) (hU : Up w w') : FourAt w' o P Q G A B C k1 k2 k3 m z x y c r := ⟨h.1.up hU, h.2.up hU⟩

end Go.Proofs.YtoaomjdpiealfaaDoor
