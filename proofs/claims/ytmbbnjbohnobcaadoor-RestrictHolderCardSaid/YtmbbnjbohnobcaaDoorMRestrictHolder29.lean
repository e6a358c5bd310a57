/- Restrictive signatures: unblinding, in the program and in the reference. Encodings of items, transcripts, challenges: plain lists of bytes. No program in sight. -/
import Derived.Test.YtmbbnjbohnobcaaDoorMRestrictHolder28
import Derived.Test.YtmbbnjbohnobcaaDoorMRestrictHolder13
namespace Go.Proofs.YtmbbnjbohnobcaaDoor
open Go.RowKit Go.Sp
set_option maxHeartbeats 2000000
set_option maxRecDepth 20000

/-- A signature as a value. -/
abbrev sgn (a b c d : Int) : Value := .agg #[.int .i64 a, .int .i64 b, .int .i64 c, .int .i64 d]
/-- The error of unblinding. -/
def unE (P Q G A B C k1 k2 k3 m z x y c r s u v : Int) : Int := if kvB P Q G A B C k1 k2 k3 = true then (if facB Q s u v = true then (if cvB P Q G A B C k1 k2 k3 m z x y c r = true then 0 else 11) else 2) else 1

theorem up_eq {a b : World} (h : a = b) : Up a b := h ▸ Up.refl _
theorem blk_four {w : World} {b : Nat} {t : TypeId} {p q e d : Value} (h : Blk w b t #[p, q, e, d]) (x y z u : Value) : Blk ((((w.setCell ⟨b, 0, none⟩ x).setCell ⟨b, 1, none⟩ y).setCell ⟨b, 2, none⟩ z).setCell ⟨b, 3, none⟩ u) b t #[x, y, z, u] :=
  (((h.wrote 0 x).wrote 1 y).wrote 2 z).wrote 3 u

/-- The boxes of Unblind. -/
def UnbAt (w : World) (o : Nat) (P Q G A B C k1 k2 k3 m z x y c r sz sa sb sr s u v : Int) : Prop :=
  ViewsAt w o P Q G A B C k1 k2 k3 m z x y c r ∧ Blk w (o + 3) 58 #[.int .i64 sz, .int .i64 sa, .int .i64 sb, .int .i64 sr] ∧ GrpAt w (o + 4) s u v
theorem UnbAt.up {w w' : World} {o : Nat} {P Q G A B C k1 k2 k3 m z x y c r sz sa sb sr s u v : Int} (h : UnbAt w o P Q G A B C k1 k2 k3 m z x y c r sz sa sb sr s u v) (hU : Up w w') : UnbAt w' o P Q G A B C k1 k2 k3 m z x y c r sz sa sb sr s u v := ⟨h.1.up hU, h.2.1.up hU, h.2.2.up hU⟩
theorem unb_new {w : World} {o : Nat} {P Q G A B C k1 k2 k3 m z x y c r sz sa sb sr s u v : Int} (ho : w.heap.size = o) :
    UnbAt (((((w.alloc (.cells #[.int .i64 P, .int .i64 Q, .int .i64 G, .int .i64 A, .int .i64 B, .int .i64 C] 39)).alloc (.cells #[.int .i64 k1, .int .i64 k2, .int .i64 k3] 41)).alloc (.cells #[.int .i64 m, .int .i64 z, .int .i64 x, .int .i64 y, .int .i64 c, .int .i64 r] 56)).alloc (.cells #[.int .i64 sz, .int .i64 sa, .int .i64 sb, .int .i64 sr] 58)).alloc (.cells #[.int .i64 s, .int .i64 u, .int .i64 v] 60)) o P Q G A B C k1 k2 k3 m z x y c r sz sa sb sr s u v :=
  ⟨(views_new ho).up (((Up.refl _).alloc _).alloc _), (Blk.new (by simp [ho]) rfl).alloc _, nums_three (by simp [ho])⟩
/-- The boxes of Unblind, and its result. -/
def ResAt (w : World) (o : Nat) (P Q G A B C k1 k2 k3 m z x y c r sz sa sb sr s u v : Int) : Prop := UnbAt w o P Q G A B C k1 k2 k3 m z x y c r sz sa sb sr s u v ∧ Blk w (o + 5) 58 #[.int .i64 0, .int .i64 0, .int .i64 0, .int .i64 0]
theorem ResAt.up {w w' : World} {o : Nat} {P Q G A B C k1 k2 k3 m z x y c r sz sa sb sr s u v : Int} (h : ResAt w o P Q G A B C k1 k2 k3 m z x y c r sz sa sb sr s u v) (hU : Up w w') : ResAt w' o P Q G A B C k1 k2 k3 m z x y c r sz sa sb sr s u v := ⟨h.1.up hU, h.2.up hU⟩

theorem keepC9 {w0 w w' : World} {o : Nat} {P Q G A B C r u v : Int} (hU : Up w w') (h : w.cell? ⟨o, 0, none⟩ = some (.int .i64 P) ∧ w.cell? ⟨o, 1, none⟩ = some (.int .i64 Q) ∧ w.cell? ⟨o, 2, none⟩ = some (.int .i64 G) ∧ w.cell? ⟨o, 3, none⟩ = some (.int .i64 A) ∧ w.cell? ⟨o, 4, none⟩ = some (.int .i64 B) ∧ w.cell? ⟨o, 5, none⟩ = some (.int .i64 C) ∧ w.cell? ⟨o + 2, 5, none⟩ = some (.int .i64 r) ∧ w.cell? ⟨o + 4, 1, none⟩ = some (.int .i64 u) ∧ w.cell? ⟨o + 4, 2, none⟩ = some (.int .i64 v) ∧ Hid (Up w0 w)) :
    w'.cell? ⟨o, 0, none⟩ = some (.int .i64 P) ∧ w'.cell? ⟨o, 1, none⟩ = some (.int .i64 Q) ∧ w'.cell? ⟨o, 2, none⟩ = some (.int .i64 G) ∧ w'.cell? ⟨o, 3, none⟩ = some (.int .i64 A) ∧ w'.cell? ⟨o, 4, none⟩ = some (.int .i64 B) ∧ w'.cell? ⟨o, 5, none⟩ = some (.int .i64 C) ∧ w'.cell? ⟨o + 2, 5, none⟩ = some (.int .i64 r) ∧ w'.cell? ⟨o + 4, 1, none⟩ = some (.int .i64 u) ∧ w'.cell? ⟨o + 4, 2, none⟩ = some (.int .i64 v) ∧ Hid (Up w0 w') :=
  ⟨cellUp hU h.1, cellUp hU h.2.1, cellUp hU h.2.2.1, cellUp hU h.2.2.2.1, cellUp hU h.2.2.2.2.1, cellUp hU h.2.2.2.2.2.1, cellUp hU h.2.2.2.2.2.2.1, cellUp hU h.2.2.2.2.2.2.2.1, cellUp hU h.2.2.2.2.2.2.2.2.1, hid (h.2.2.2.2.2.2.2.2.2.out.trans hU)⟩
theorem keepC9Store {w0 w w' : World} {o : Nat} {P Q G A B C r u v : Int} {t : Value} (hb : w0.heap.size ≤ o) (hw : w' = w.setCell ⟨o + 3, 3, none⟩ t) (h : w.cell? ⟨o, 0, none⟩ = some (.int .i64 P) ∧ w.cell? ⟨o, 1, none⟩ = some (.int .i64 Q) ∧ w.cell? ⟨o, 2, none⟩ = some (.int .i64 G) ∧ w.cell? ⟨o, 3, none⟩ = some (.int .i64 A) ∧ w.cell? ⟨o, 4, none⟩ = some (.int .i64 B) ∧ w.cell? ⟨o, 5, none⟩ = some (.int .i64 C) ∧ w.cell? ⟨o + 2, 5, none⟩ = some (.int .i64 r) ∧ w.cell? ⟨o + 4, 1, none⟩ = some (.int .i64 u) ∧ w.cell? ⟨o + 4, 2, none⟩ = some (.int .i64 v) ∧ Hid (Up w0 w)) :
    w'.cell? ⟨o, 0, none⟩ = some (.int .i64 P) ∧ w'.cell? ⟨o, 1, none⟩ = some (.int .i64 Q) ∧ w'.cell? ⟨o, 2, none⟩ = some (.int .i64 G) ∧ w'.cell? ⟨o, 3, none⟩ = some (.int .i64 A) ∧ w'.cell? ⟨o, 4, none⟩ = some (.int .i64 B) ∧ w'.cell? ⟨o, 5, none⟩ = some (.int .i64 C) ∧ w'.cell? ⟨o + 2, 5, none⟩ = some (.int .i64 r) ∧ w'.cell? ⟨o + 4, 1, none⟩ = some (.int .i64 u) ∧ w'.cell? ⟨o + 4, 2, none⟩ = some (.int .i64 v) ∧ Hid (Up w0 w') := by
  subst hw
  have key : ∀ k i, k ≠ o + 3 → (w.setCell ⟨o + 3, 3, none⟩ t).cell? ⟨k, i, none⟩ = w.cell? ⟨k, i, none⟩ := fun k i hk => by
    rw [World.cell?_setCell_other]; exact fun h => hk (congrArg Addr.block h).symm
  exact ⟨(key _ _ (by omega)).trans h.1, (key _ _ (by omega)).trans h.2.1, (key _ _ (by omega)).trans h.2.2.1, (key _ _ (by omega)).trans h.2.2.2.1, (key _ _ (by omega)).trans h.2.2.2.2.1, (key _ _ (by omega)).trans h.2.2.2.2.2.1, (key _ _ (by omega)).trans h.2.2.2.2.2.2.1, (key _ _ (by omega)).trans h.2.2.2.2.2.2.2.1, (key _ _ (by omega)).trans h.2.2.2.2.2.2.2.2.1, hid (h.2.2.2.2.2.2.2.2.2.out.setCell (show w0.heap.size ≤ o + 3 by omega) _)⟩
theorem up9 {w1 w : World} {a b c d e f g h i : Prop} (hs : a ∧ b ∧ c ∧ d ∧ e ∧ f ∧ g ∧ h ∧ i ∧ Hid (Up w1 w)) : Up w1 w := hs.2.2.2.2.2.2.2.2.2.out

theorem resUnblind_any (P Q G A B C k1 k2 k3 m z x y c r sz sa sb sr s u v : Int) (w : World) (hP : -9223372036854775808 ≤ P) (hQ : Q ≤ 9223372036854775807) (hT : Tab w) :
    Calls Tryd.prog 34 #[bas P Q G A B C, bkey k1 k2 k3, vw m z x y c r, sgn sz sa sb sr, .agg #[.int .i64 s, .int .i64 u, .int .i64 v]] w fun e w' => e = .returned (.tuple #[sgn (orZ (unE P Q G A B C k1 k2 k3 m z x y c r s u v) sz) (orZ (unE P Q G A B C k1 k2 k3 m z x y c r s u v) sa) (orZ (unE P Q G A B C k1 k2 k3 m z x y c r s u v) sb) (orZ (unE P Q G A B C k1 k2 k3 m z x y c r s u v) ((r * u % Q + v) % Q)), .int .i64 (unE P Q G A B C k1 k2 k3 m z x y c r s u v)]) ∧ Up w w' := by
  have HT := hid hT
  clear hT
  have HE : Hid (unE P Q G A B C k1 k2 k3 m z x y c r s u v = if kvB P Q G A B C k1 k2 k3 = true then (if facB Q s u v = true then (if cvB P Q G A B C k1 k2 k3 m z x y c r = true then 0 else 11) else 2) else 1) := hid rfl
  generalize unE P Q G A B C k1 k2 k3 m z x y c r s u v = E at *
  obtain ⟨o, ho⟩ : ∃ o, w.heap.size = o := ⟨_, rfl⟩
  have HO := hid ho
  clear ho
  go_enter Tryd.func34, Tryd.ntmps34
  go_wp2_with fail
  have HV0 : Hid (ResAt ((((((w.alloc (.cells #[.int .i64 P, .int .i64 Q, .int .i64 G, .int .i64 A, .int .i64 B, .int .i64 C] 39)).alloc (.cells #[.int .i64 k1, .int .i64 k2, .int .i64 k3] 41)).alloc (.cells #[.int .i64 m, .int .i64 z, .int .i64 x, .int .i64 y, .int .i64 c, .int .i64 r] 56)).alloc (.cells #[.int .i64 sz, .int .i64 sa, .int .i64 sb, .int .i64 sr] 58)).alloc (.cells #[.int .i64 s, .int .i64 u, .int .i64 v] 60)).alloc (.cells #[.int .i64 0, .int .i64 0, .int .i64 0, .int .i64 0] 58)) o P Q G A B C k1 k2 k3 m z x y c r sz sa sb sr s u v) := hid ⟨(unb_new HO.out).up ((Up.refl _).alloc _), Blk.new (by simp [HO.out]) rfl⟩
  have HU0 := hid (((((((Up.refl w).alloc (.cells #[.int .i64 P, .int .i64 Q, .int .i64 G, .int .i64 A, .int .i64 B, .int .i64 C] 39)).alloc (.cells #[.int .i64 k1, .int .i64 k2, .int .i64 k3] 41)).alloc (.cells #[.int .i64 m, .int .i64 z, .int .i64 x, .int .i64 y, .int .i64 c, .int .i64 r] 56)).alloc (.cells #[.int .i64 sz, .int .i64 sa, .int .i64 sb, .int .i64 sr] 58)).alloc (.cells #[.int .i64 s, .int .i64 u, .int .i64 v] 60)).alloc (.cells #[.int .i64 0, .int .i64 0, .int .i64 0, .int .i64 0] 58))
  refine (resValid_any P Q G A B C k1 k2 k3 _ hP hQ (HT.out.up HU0.out)).mono ?_
  rintro e w1 ⟨rfl, hU1⟩
  rw [HO.out]
  have HV1 := hid (HV0.out.up hU1)
  have HU1 := hid (HU0.out.trans hU1)
  clear hU1 HV0 HU0
  obtain ⟨⟨⟨⟨⟨c0, c1, c2⟩, c3, c4, c5⟩, ⟨e0, e1, e2⟩, ⟨b0, b1, b2⟩, b3, b4, b5⟩, hS1, a0, a1, a2⟩, hR1⟩ := HV1.out
  by_cases h : kvB P Q G A B C k1 k2 k3 = true
  case neg =>
    have h' : kvB P Q G A B C k1 k2 k3 = false := by simpa using h
    have hX : E = 1 := by rw [HE.out, if_neg h]
    have z0 := hR1.val (i := 0) rfl
    have z1 := hR1.val (i := 1) rfl
    have z2 := hR1.val (i := 2) rfl
    have z3 := hR1.val (i := 3) rfl
    have y0 := hR1.thawed 0
    have y1 := hR1.thawed 1
    have y2 := hR1.thawed 2
    have y3 := hR1.thawed 3
    subst hX
    have HR := hid hR1
    clear c0 c1 c2 c3 c4 c5 e0 e1 e2 b0 b1 b2 b3 b4 b5 a0 a1 a2 hS1 hR1
    rw [h']
    clear h h'
    go_wp2
    refine bodyPost_ret (v := .tuple #[sgn 0 0 0 0, .int .i64 1]) (results_row_tmp Tryd.results34 _ _ (o + 5) 58 _ (0, 0) _ (by rfl) (blk_four HR.out _ _ _ _) Tryd.underlying58 rfl (by kernel_rfl)) rfl ⟨rfl, (((HU1.out.setCell ?_ _).setCell ?_ _).setCell ?_ _).setCell ?_ _⟩ <;> (have := HO.out; dsimp only; omega)
  have C1 := hid h
  rw [h]
  clear h hS1 hR1
  obtain ⟨hbv, _⟩ : bvB P Q G A B C = true ∧ gnB P Q k1 = true ∧ gnB P Q k2 = true ∧ gnB P Q k3 = true := by
    have := C1.out
    simp only [kvB, Bool.and_eq_true] at this
    exact this
  have g := gv_iff.1 (bv_iff.1 hbv).1
  have g1 := g.P61
  have g2 := g.P4
  have g3 := g.Q3
  have g4 := g.QP
  clear hbv g
  go_wp2_with fail
  refine (resFactors_any P Q G A B C s u v _).mono ?_
  rintro e w2 ⟨rfl, hU2⟩
  have HV2 := hid (HV1.out.up hU2)
  have HU2 := hid (HU1.out.trans hU2)
  clear hU2 c0 c1 c2 c3 c4 c5 e0 e1 e2 b0 b1 b2 b3 b4 b5 a0 a1 a2 HV1
  obtain ⟨⟨⟨⟨⟨c0, c1, c2⟩, c3, c4, c5⟩, ⟨e0, e1, e2⟩, ⟨b0, b1, b2⟩, b3, b4, b5⟩, hS2, a0, a1, a2⟩, hR2⟩ := HV2.out
  by_cases h : facB Q s u v = true
  case neg =>
    have h' : facB Q s u v = false := by simpa using h
    have hX : E = 2 := by rw [HE.out, if_pos C1.out, if_neg h]
    have z0 := hR2.val (i := 0) rfl
    have z1 := hR2.val (i := 1) rfl
    have z2 := hR2.val (i := 2) rfl
    have z3 := hR2.val (i := 3) rfl
    have y0 := hR2.thawed 0
    have y1 := hR2.thawed 1
    have y2 := hR2.thawed 2
    have y3 := hR2.thawed 3
    subst hX
    have HR := hid hR2
    clear c0 c1 c2 c3 c4 c5 e0 e1 e2 b0 b1 b2 b3 b4 b5 a0 a1 a2 hS2 hR2
    rw [h']
    clear h h'
    go_wp2
    refine bodyPost_ret (v := .tuple #[sgn 0 0 0 0, .int .i64 2]) (results_row_tmp Tryd.results34 _ _ (o + 5) 58 _ (0, 0) _ (by rfl) (blk_four HR.out _ _ _ _) Tryd.underlying58 rfl (by kernel_rfl)) rfl ⟨rfl, (((HU2.out.setCell ?_ _).setCell ?_ _).setCell ?_ _).setCell ?_ _⟩ <;> (have := HO.out; dsimp only; omega)
  have C2 := hid h
  rw [h]
  clear h hS2 hR2
  go_wp2_with fail
  refine (resCheckView_any P Q G A B C k1 k2 k3 m z x y c r _ hP hQ (HT.out.up HU2.out)).mono ?_
  rintro e w3 ⟨rfl, hU3⟩
  have HV3 := hid (HV2.out.up hU3)
  have HU3 := hid (HU2.out.trans hU3)
  clear hU3 c0 c1 c2 c3 c4 c5 e0 e1 e2 b0 b1 b2 b3 b4 b5 a0 a1 a2 HV2
  obtain ⟨⟨⟨⟨⟨c0, c1, c2⟩, c3, c4, c5⟩, ⟨e0, e1, e2⟩, ⟨b0, b1, b2⟩, b3, b4, b5⟩, hS3, a0, a1, a2⟩, hR3⟩ := HV3.out
  by_cases h : cvB P Q G A B C k1 k2 k3 m z x y c r = true
  case neg =>
    have h' : cvB P Q G A B C k1 k2 k3 m z x y c r = false := by simpa using h
    have hX : E = 11 := by rw [HE.out, if_pos C1.out, if_pos C2.out, if_neg h]
    have z0 := hR3.val (i := 0) rfl
    have z1 := hR3.val (i := 1) rfl
    have z2 := hR3.val (i := 2) rfl
    have z3 := hR3.val (i := 3) rfl
    have y0 := hR3.thawed 0
    have y1 := hR3.thawed 1
    have y2 := hR3.thawed 2
    have y3 := hR3.thawed 3
    subst hX
    have HR := hid hR3
    clear c0 c1 c2 c3 c4 c5 e0 e1 e2 b0 b1 b2 b3 b4 b5 a0 a1 a2 hS3 hR3
    rw [h']
    clear h h'
    go_wp2
    refine bodyPost_ret (v := .tuple #[sgn 0 0 0 0, .int .i64 11]) (results_row_tmp Tryd.results34 _ _ (o + 5) 58 _ (0, 0) _ (by rfl) (blk_four HR.out _ _ _ _) Tryd.underlying58 rfl (by kernel_rfl)) rfl ⟨rfl, (((HU3.out.setCell ?_ _).setCell ?_ _).setCell ?_ _).setCell ?_ _⟩ <;> (have := HO.out; dsimp only; omega)
  have C3 := hid h
  rw [h]
  clear h hS3 hR3
  have hX : E = 0 := by rw [HE.out, if_pos C1.out, if_pos C2.out, if_pos C3.out]
  subst hX
  obtain ⟨hs, hu, hv⟩ : nzB Q s = true ∧ nzB Q u = true ∧ exB Q v = true := by
    have := C2.out
    simp only [facB, Bool.and_eq_true] at this
    exact this
  have hr : exB Q r = true := by
    have := C3.out
    simp only [cvB, Bool.and_eq_true] at this
    exact this.2.2.2.2.2.2.1
  obtain ⟨u0, u1⟩ := nzB_iff.1 hu
  obtain ⟨v0, v1⟩ := exB_iff.1 hv
  obtain ⟨r0, r1⟩ := exB_iff.1 hr
  have M1 := hid (fun w' => resScaled_ok P Q G A B C r u w' (by omega) r1 (by omega) u1 (by omega))
  have p0 := Int.emod_nonneg (r * u) (show Q ≠ 0 by omega)
  have p1 := Int.emod_lt_of_pos (r * u) (show 0 < Q by omega)
  obtain ⟨Y, hY⟩ : ∃ Y, r * u % Q = Y := ⟨_, rfl⟩
  rw [hY] at M1 p0 p1
  have HY := hid hY
  clear hY
  have hwr : IntKind.i64.wrap (Y + v) = Y + v := IntWalk.i64_in _ (by omega)
  have htm : (Y + v).tmod Q = (Y + v) % Q := Int.tmod_eq_emod_of_nonneg (by omega)
  have hq0 : (Q == 0) = false := by simp; omega
  have hq1 : Q ≠ 0 := by omega
  have hro : w.heap.size ≤ o := by rw [HO.out]; omega
  have hS0 := And.intro c0 (And.intro c1 (And.intro c2 (And.intro c3 (And.intro c4 (And.intro c5 (And.intro b5 (And.intro a1 (And.intro a2 HU3))))))))
  have hS1 := keepC9 (Up.refl w3).drew hS0
  clear c0 c1 c2 c3 c4 c5 e0 e1 e2 b0 b1 b2 b3 b4 b5 a0 a1 a2 hs hu hv hr u0 u1 r0 r1 g1 g2 g4
  go_wp2_with fail
  go_region_held3 (fun w' => w'.cell? ⟨o, 0, none⟩ = some (.int .i64 P) ∧ w'.cell? ⟨o, 1, none⟩ = some (.int .i64 Q) ∧ w'.cell? ⟨o, 2, none⟩ = some (.int .i64 G) ∧ w'.cell? ⟨o, 3, none⟩ = some (.int .i64 A) ∧ w'.cell? ⟨o, 4, none⟩ = some (.int .i64 B) ∧ w'.cell? ⟨o, 5, none⟩ = some (.int .i64 C) ∧ w'.cell? ⟨o + 2, 5, none⟩ = some (.int .i64 r) ∧ w'.cell? ⟨o + 4, 1, none⟩ = some (.int .i64 u) ∧ w'.cell? ⟨o + 4, 2, none⟩ = some (.int .i64 v) ∧ Hid (Up w w')) (first | exact hS0 | exact hS1 | exact keepC9Store hro rfl (by assumption) | exact keepC9 (by assumption) (by assumption)) (first
    | (go_at_call 79; refine (M1.out _).mono ?_; rintro e w4 ⟨rfl, hU4⟩; have hV4 := HV3.out.up (Up.trans (by first | exact (Up.refl w3).drew | exact Up.refl w3) hU4); have hS4 := hV4.1.2.1; have hR4 := hV4.2; have y3 := hS4.thawed 3; have z3 := hS4.val (i := 3) rfl))
  have hU5 : Up w (w4.setCell ⟨o + 3, 3, none⟩ (.int .i64 ((Y + v) % Q))) := up9 (by assumption)
  have hS5 := hS4.wrote 3 (.int .i64 ((Y + v) % Q))
  have hR5 := hR4.apart (a := ⟨o + 3, 3, none⟩) (by simp) (.int .i64 ((Y + v) % Q))
  generalize w4.setCell ⟨o + 3, 3, none⟩ (.int .i64 ((Y + v) % Q)) = w5 at *
  have HU5 := hid hU5
  have HR5 := hid hR5
  have s0 : w5.cell? ⟨o + 3, 0, none⟩ = some (.int .i64 sz) := hS5.val (i := 0) rfl
  have s1 : w5.cell? ⟨o + 3, 1, none⟩ = some (.int .i64 sa) := hS5.val (i := 1) rfl
  have s2 : w5.cell? ⟨o + 3, 2, none⟩ = some (.int .i64 sb) := hS5.val (i := 2) rfl
  have s3 : w5.cell? ⟨o + 3, 3, none⟩ = some (.int .i64 ((Y + v) % Q)) := hS5.val (i := 3) rfl
  have t0 := hR5.val (i := 0) rfl
  have t1 := hR5.val (i := 1) rfl
  have t2 := hR5.val (i := 2) rfl
  have t3 := hR5.val (i := 3) rfl
  have x0 := hR5.thawed 0
  have x1 := hR5.thawed 1
  have x2 := hR5.thawed 2
  have x3 := hR5.thawed 3
  clear hU5 hS5 hR5 hS4 hR4 hV4 y3 z3 hS0 hS1
  go_wp2
  refine bodyPost_ret (v := .tuple #[sgn sz sa sb ((Y + v) % Q), .int .i64 0]) (results_row_tmp Tryd.results34 _ _ (o + 5) 58 _ (0, 0) _ (by rfl) (blk_four HR5.out _ _ _ _) Tryd.underlying58 rfl (by kernel_rfl)) rfl ⟨by rw [HY.out]; rfl, (((HU5.out.setCell ?_ _).setCell ?_ _).setCell ?_ _).setCell ?_ _⟩ <;> (have := HO.out; dsimp only; omega)

theorem r25Unblind_any (P Q G A B C k1 k2 k3 m z x y c r sz sa sb sr s u v : Int) (w : World) (hP : -9223372036854775808 ≤ P) (hQ : Q ≤ 9223372036854775807) :
    Calls Tryd.prog 35 #[bas P Q G A B C, bkey k1 k2 k3, vw m z x y c r, sgn sz sa sb sr, .agg #[.int .i64 s, .int .i64 u, .int .i64 v]] w fun e w' => e = .returned (.tuple #[sgn (orZ (unE P Q G A B C k1 k2 k3 m z x y c r s u v) sz) (orZ (unE P Q G A B C k1 k2 k3 m z x y c r s u v) sa) (orZ (unE P Q G A B C k1 k2 k3 m z x y c r s u v) sb) (orZ (unE P Q G A B C k1 k2 k3 m z x y c r s u v) ((r * u % Q + v) % Q)), .int .i64 (unE P Q G A B C k1 k2 k3 m z x y c r s u v)]) ∧ Up w w' := by
  have HE : Hid (unE P Q G A B C k1 k2 k3 m z x y c r s u v = if kvB P Q G A B C k1 k2 k3 = true then (if facB Q s u v = true then (if cvB P Q G A B C k1 k2 k3 m z x y c r = true then 0 else 11) else 2) else 1) := hid rfl
  generalize unE P Q G A B C k1 k2 k3 m z x y c r s u v = E at *
  obtain ⟨o, ho⟩ : ∃ o, w.heap.size = o := ⟨_, rfl⟩
  have HO := hid ho
  clear ho
  go_enter Tryd.func35, Tryd.ntmps35
  go_wp2_with fail
  have HV0 : Hid (ResAt ((((((w.alloc (.cells #[.int .i64 P, .int .i64 Q, .int .i64 G, .int .i64 A, .int .i64 B, .int .i64 C] 39)).alloc (.cells #[.int .i64 k1, .int .i64 k2, .int .i64 k3] 41)).alloc (.cells #[.int .i64 m, .int .i64 z, .int .i64 x, .int .i64 y, .int .i64 c, .int .i64 r] 56)).alloc (.cells #[.int .i64 sz, .int .i64 sa, .int .i64 sb, .int .i64 sr] 58)).alloc (.cells #[.int .i64 s, .int .i64 u, .int .i64 v] 60)).alloc (.cells #[.int .i64 0, .int .i64 0, .int .i64 0, .int .i64 0] 58)) o P Q G A B C k1 k2 k3 m z x y c r sz sa sb sr s u v) := hid ⟨(unb_new HO.out).up ((Up.refl _).alloc _), Blk.new (by simp [HO.out]) rfl⟩
  have HU0 := hid (((((((Up.refl w).alloc (.cells #[.int .i64 P, .int .i64 Q, .int .i64 G, .int .i64 A, .int .i64 B, .int .i64 C] 39)).alloc (.cells #[.int .i64 k1, .int .i64 k2, .int .i64 k3] 41)).alloc (.cells #[.int .i64 m, .int .i64 z, .int .i64 x, .int .i64 y, .int .i64 c, .int .i64 r] 56)).alloc (.cells #[.int .i64 sz, .int .i64 sa, .int .i64 sb, .int .i64 sr] 58)).alloc (.cells #[.int .i64 s, .int .i64 u, .int .i64 v] 60)).alloc (.cells #[.int .i64 0, .int .i64 0, .int .i64 0, .int .i64 0] 58))
  refine (r25Valid_any P Q G A B C k1 k2 k3 _ hP hQ).mono ?_
  rintro e w1 ⟨rfl, hU1⟩
  rw [HO.out]
  have HV1 := hid (HV0.out.up hU1)
  have HU1 := hid (HU0.out.trans hU1)
  clear hU1 HV0 HU0
  obtain ⟨⟨⟨⟨⟨c0, c1, c2⟩, c3, c4, c5⟩, ⟨e0, e1, e2⟩, ⟨b0, b1, b2⟩, b3, b4, b5⟩, hS1, a0, a1, a2⟩, hR1⟩ := HV1.out
  by_cases h : kvB P Q G A B C k1 k2 k3 = true
  case neg =>
    have h' : kvB P Q G A B C k1 k2 k3 = false := by simpa using h
    have hX : E = 1 := by rw [HE.out, if_neg h]
    have z0 := hR1.val (i := 0) rfl
    have z1 := hR1.val (i := 1) rfl
    have z2 := hR1.val (i := 2) rfl
    have z3 := hR1.val (i := 3) rfl
    have y0 := hR1.thawed 0
    have y1 := hR1.thawed 1
    have y2 := hR1.thawed 2
    have y3 := hR1.thawed 3
    subst hX
    have HR := hid hR1
    clear c0 c1 c2 c3 c4 c5 e0 e1 e2 b0 b1 b2 b3 b4 b5 a0 a1 a2 hS1 hR1
    rw [h']
    clear h h'
    go_wp2
    refine bodyPost_ret (v := .tuple #[sgn 0 0 0 0, .int .i64 1]) (results_row_tmp Tryd.results35 _ _ (o + 5) 58 _ (0, 0) _ (by rfl) (blk_four HR.out _ _ _ _) Tryd.underlying58 rfl (by kernel_rfl)) rfl ⟨rfl, (((HU1.out.setCell ?_ _).setCell ?_ _).setCell ?_ _).setCell ?_ _⟩ <;> (have := HO.out; dsimp only; omega)
  have C1 := hid h
  rw [h]
  clear h hS1 hR1
  obtain ⟨hbv, _⟩ : bvB P Q G A B C = true ∧ gnB P Q k1 = true ∧ gnB P Q k2 = true ∧ gnB P Q k3 = true := by
    have := C1.out
    simp only [kvB, Bool.and_eq_true] at this
    exact this
  have g := gv_iff.1 (bv_iff.1 hbv).1
  have g1 := g.P61
  have g2 := g.P4
  have g3 := g.Q3
  have g4 := g.QP
  clear hbv g
  go_wp2_with fail
  refine (r25Factors_any P Q G s u v _).mono ?_
  rintro e w2 ⟨rfl, hU2⟩
  have HV2 := hid (HV1.out.up hU2)
  have HU2 := hid (HU1.out.trans hU2)
  clear hU2 c0 c1 c2 c3 c4 c5 e0 e1 e2 b0 b1 b2 b3 b4 b5 a0 a1 a2 HV1
  obtain ⟨⟨⟨⟨⟨c0, c1, c2⟩, c3, c4, c5⟩, ⟨e0, e1, e2⟩, ⟨b0, b1, b2⟩, b3, b4, b5⟩, hS2, a0, a1, a2⟩, hR2⟩ := HV2.out
  by_cases h : facB Q s u v = true
  case neg =>
    have h' : facB Q s u v = false := by simpa using h
    have hX : E = 2 := by rw [HE.out, if_pos C1.out, if_neg h]
    have z0 := hR2.val (i := 0) rfl
    have z1 := hR2.val (i := 1) rfl
    have z2 := hR2.val (i := 2) rfl
    have z3 := hR2.val (i := 3) rfl
    have y0 := hR2.thawed 0
    have y1 := hR2.thawed 1
    have y2 := hR2.thawed 2
    have y3 := hR2.thawed 3
    subst hX
    have HR := hid hR2
    clear c0 c1 c2 c3 c4 c5 e0 e1 e2 b0 b1 b2 b3 b4 b5 a0 a1 a2 hS2 hR2
    rw [h']
    clear h h'
    go_wp2
    refine bodyPost_ret (v := .tuple #[sgn 0 0 0 0, .int .i64 2]) (results_row_tmp Tryd.results35 _ _ (o + 5) 58 _ (0, 0) _ (by rfl) (blk_four HR.out _ _ _ _) Tryd.underlying58 rfl (by kernel_rfl)) rfl ⟨rfl, (((HU2.out.setCell ?_ _).setCell ?_ _).setCell ?_ _).setCell ?_ _⟩ <;> (have := HO.out; dsimp only; omega)
  have C2 := hid h
  rw [h]
  clear h hS2 hR2
  go_wp2_with fail
  refine (r25CheckView_any P Q G A B C k1 k2 k3 m z x y c r _ hP hQ).mono ?_
  rintro e w3 ⟨rfl, hU3⟩
  have HV3 := hid (HV2.out.up hU3)
  have HU3 := hid (HU2.out.trans hU3)
  clear hU3 c0 c1 c2 c3 c4 c5 e0 e1 e2 b0 b1 b2 b3 b4 b5 a0 a1 a2 HV2
  obtain ⟨⟨⟨⟨⟨c0, c1, c2⟩, c3, c4, c5⟩, ⟨e0, e1, e2⟩, ⟨b0, b1, b2⟩, b3, b4, b5⟩, hS3, a0, a1, a2⟩, hR3⟩ := HV3.out
  by_cases h : cvB P Q G A B C k1 k2 k3 m z x y c r = true
  case neg =>
    have h' : cvB P Q G A B C k1 k2 k3 m z x y c r = false := by simpa using h
    have hX : E = 11 := by rw [HE.out, if_pos C1.out, if_pos C2.out, if_neg h]
    have z0 := hR3.val (i := 0) rfl
    have z1 := hR3.val (i := 1) rfl
    have z2 := hR3.val (i := 2) rfl
    have z3 := hR3.val (i := 3) rfl
    have y0 := hR3.thawed 0
    have y1 := hR3.thawed 1
    have y2 := hR3.thawed 2
    have y3 := hR3.thawed 3
    subst hX
    have HR := hid hR3
    clear c0 c1 c2 c3 c4 c5 e0 e1 e2 b0 b1 b2 b3 b4 b5 a0 a1 a2 hS3 hR3
    rw [h']
    clear h h'
    go_wp2
    refine bodyPost_ret (v := .tuple #[sgn 0 0 0 0, .int .i64 11]) (results_row_tmp Tryd.results35 _ _ (o + 5) 58 _ (0, 0) _ (by rfl) (blk_four HR.out _ _ _ _) Tryd.underlying58 rfl (by kernel_rfl)) rfl ⟨rfl, (((HU3.out.setCell ?_ _).setCell ?_ _).setCell ?_ _).setCell ?_ _⟩ <;> (have := HO.out; dsimp only; omega)
  have C3 := hid h
  rw [h]
  clear h hS3 hR3
  have hX : E = 0 := by rw [HE.out, if_pos C1.out, if_pos C2.out, if_pos C3.out]
  subst hX
  obtain ⟨hs, hu, hv⟩ : nzB Q s = true ∧ nzB Q u = true ∧ exB Q v = true := by
    have := C2.out
    simp only [facB, Bool.and_eq_true] at this
    exact this
  have hr : exB Q r = true := by
    have := C3.out
    simp only [cvB, Bool.and_eq_true] at this
    exact this.2.2.2.2.2.2.1
  obtain ⟨u0, u1⟩ := nzB_iff.1 hu
  obtain ⟨v0, v1⟩ := exB_iff.1 hv
  obtain ⟨r0, r1⟩ := exB_iff.1 hr
  have M1 := hid (fun w' => rMul_ok r u Q w' (by omega) r1 (by omega) u1 (by omega))
  have p0 := Int.emod_nonneg (r * u) (show Q ≠ 0 by omega)
  have p1 := Int.emod_lt_of_pos (r * u) (show 0 < Q by omega)
  obtain ⟨Y, hY⟩ : ∃ Y, r * u % Q = Y := ⟨_, rfl⟩
  rw [hY] at M1 p0 p1
  have HY := hid hY
  clear hY
  have hwr : IntKind.i64.wrap (Y + v) = Y + v := IntWalk.i64_in _ (by omega)
  have htm : (Y + v).tmod Q = (Y + v) % Q := Int.tmod_eq_emod_of_nonneg (by omega)
  have hq0 : (Q == 0) = false := by simp; omega
  have hq1 : Q ≠ 0 := by omega
  have hro : w.heap.size ≤ o := by rw [HO.out]; omega
  have hS0 := And.intro c0 (And.intro c1 (And.intro c2 (And.intro c3 (And.intro c4 (And.intro c5 (And.intro b5 (And.intro a1 (And.intro a2 HU3))))))))
  have hS1 := keepC9 (Up.refl w3).drew hS0
  clear c0 c1 c2 c3 c4 c5 e0 e1 e2 b0 b1 b2 b3 b4 b5 a0 a1 a2 hs hu hv hr u0 u1 r0 r1 g1 g2 g4
  go_wp2_with fail
  go_region_held3 (fun w' => w'.cell? ⟨o, 0, none⟩ = some (.int .i64 P) ∧ w'.cell? ⟨o, 1, none⟩ = some (.int .i64 Q) ∧ w'.cell? ⟨o, 2, none⟩ = some (.int .i64 G) ∧ w'.cell? ⟨o, 3, none⟩ = some (.int .i64 A) ∧ w'.cell? ⟨o, 4, none⟩ = some (.int .i64 B) ∧ w'.cell? ⟨o, 5, none⟩ = some (.int .i64 C) ∧ w'.cell? ⟨o + 2, 5, none⟩ = some (.int .i64 r) ∧ w'.cell? ⟨o + 4, 1, none⟩ = some (.int .i64 u) ∧ w'.cell? ⟨o + 4, 2, none⟩ = some (.int .i64 v) ∧ Hid (Up w w')) (first | exact hS0 | exact hS1 | exact keepC9Store hro rfl (by assumption) | exact keepC9 (by assumption) (by assumption)) (first
    | (go_at_call 82; refine (M1.out _).mono ?_; rintro e w4 ⟨rfl, hU4⟩; have hU4 := up_eq hU4; have hV4 := HV3.out.up (Up.trans (by first | exact (Up.refl w3).drew | exact Up.refl w3) hU4); have hS4 := hV4.1.2.1; have hR4 := hV4.2; have y3 := hS4.thawed 3; have z3 := hS4.val (i := 3) rfl))
  have hU5 : Up w (w4.setCell ⟨o + 3, 3, none⟩ (.int .i64 ((Y + v) % Q))) := up9 (by assumption)
  have hS5 := hS4.wrote 3 (.int .i64 ((Y + v) % Q))
  have hR5 := hR4.apart (a := ⟨o + 3, 3, none⟩) (by simp) (.int .i64 ((Y + v) % Q))
  generalize w4.setCell ⟨o + 3, 3, none⟩ (.int .i64 ((Y + v) % Q)) = w5 at *
  have HU5 := hid hU5
  have HR5 := hid hR5
  have s0 : w5.cell? ⟨o + 3, 0, none⟩ = some (.int .i64 sz) := hS5.val (i := 0) rfl
  have s1 : w5.cell? ⟨o + 3, 1, none⟩ = some (.int .i64 sa) := hS5.val (i := 1) rfl
  have s2 : w5.cell? ⟨o + 3, 2, none⟩ = some (.int .i64 sb) := hS5.val (i := 2) rfl
  have s3 : w5.cell? ⟨o + 3, 3, none⟩ = some (.int .i64 ((Y + v) % Q)) := hS5.val (i := 3) rfl
  have t0 := hR5.val (i := 0) rfl
  have t1 := hR5.val (i := 1) rfl
  have t2 := hR5.val (i := 2) rfl
  have t3 := hR5.val (i := 3) rfl
  have x0 := hR5.thawed 0
  have x1 := hR5.thawed 1
  have x2 := hR5.thawed 2
  have x3 := hR5.thawed 3
  clear hU5 hS5 hR5 hS4 hR4 hV4 y3 z3 hS0 hS1
  go_wp2
  refine bodyPost_ret (v := .tuple #[sgn sz sa sb ((Y + v) % Q), .int .i64 0]) (results_row_tmp Tryd.results35 _ _ (o + 5) 58 _ (0, 0) _ (by rfl) (blk_four HR5.out _ _ _ _) Tryd.underlying58 rfl (by kernel_rfl)) rfl ⟨by rw [HY.out]; rfl, (((HU5.out.setCell ?_ _).setCell ?_ _).setCell ?_ _).setCell ?_ _⟩ <;> (have := HO.out; dsimp only; omega)

end Go.Proofs.YtmbbnjbohnobcaaDoor
namespace Go.Sp

def encInt (n : Int) : List Int := 1 :: beL 8 (IntKind.u64.wrap n)
def encBytes (xs : List Int) : List Int := 2 :: (beL 4 xs.length ++ xs)
def encList (es : List (List Int)) : List Int := 3 :: (beL 4 es.length ++ es.flatten)

theorem encInt_length (n : Int) : (encInt n).length = 9 := by rw [encInt, List.length_cons, beL_length]
theorem encBytes_length (xs : List Int) : (encBytes xs).length = xs.length + 5 := by rw [encBytes, List.length_cons, List.length_append, beL_length]; omega
theorem encList_length (es : List (List Int)) : (encList es).length = es.flatten.length + 5 := by rw [encList, List.length_cons, List.length_append, beL_length]; omega

/-- The frame that a transcript hashes. -/
def frameE (h : Nat → Int) (label : List Int) (more : List (List Int)) : List Int := encList (encBytes (hList h) :: encBytes label :: more)

theorem frameE_length (h : Nat → Int) (label : List Int) (more : List (List Int)) : (frameE h label more).length = 47 + label.length + more.flatten.length := by
  rw [frameE, encList_length, List.flatten_cons, List.flatten_cons, List.length_append, List.length_append, encBytes_length, encBytes_length, hList_length]; omega

def tagTr : List Int := [115, 112, 101, 99, 105, 101, 47, 116, 114, 97, 110, 115, 99, 114, 105, 112, 116]
def tagAbsorb : List Int := [115, 112, 101, 99, 105, 101, 47, 97, 98, 115, 111, 114, 98]
def tagChal : List Int := [115, 112, 101, 99, 105, 101, 47, 99, 104, 97, 108, 108, 101, 110, 103, 101]
def tagCoin : List Int := [115, 112, 101, 99, 105, 101, 47, 99, 111, 105, 110]

def trNew (label : List Int) : Nat → Int := tagB tagTr label
def absB (h : Nat → Int) (label item : List Int) : Nat → Int := tagB tagAbsorb (frameE h label [item])
def chalN (h : Nat → Int) (label : List Int) (q : Int) : Int := numH (tagB tagChal (frameE h label [])) q

def lbSig : List Int := [115, 105, 103, 110, 97, 116, 117, 114, 101]
def lbGroup : List Int := [103, 114, 111, 117, 112]
def lbKey : List Int := [107, 101, 121]
def lbComm : List Int := [99, 111, 109, 109, 105, 116, 109, 101, 110, 116]
def lbMsg : List Int := [109, 101, 115, 115, 97, 103, 101]
def lbChal : List Int := [99, 104, 97, 108, 108, 101, 110, 103, 101]

def encInts (l : List Int) : List Int := encList (l.map encInt)

/-- The challenge of a signature. -/
def sigC (P Q G r y : Int) (m : List Int) : Int :=
  chalN (absB (absB (absB (absB (trNew lbSig) lbGroup (encInts [P, Q, G])) lbKey (encInts [y])) lbComm (encInts [r])) lbMsg (encBytes (hList (shaB m)))) lbChal Q

/-- The challenge of a coin. -/
def coinC (P Q G A B C p : Int) (root : Nat → Int) (z a b : Int) : Int :=
  numH (tagB tagCoin (encList ([P, Q, G, A, B, C, p].map encInt ++ encBytes (hList root) :: [z, a, b].map encInt))) Q

theorem numH_range (h : Nat → Int) {m : Int} (hm : 0 < m) : 0 ≤ numH h m ∧ numH h m < m := numB_range hm 16
theorem sigC_range (P G r y : Int) (m : List Int) {Q : Int} (hQ : 0 < Q) : 0 ≤ sigC P Q G r y m ∧ sigC P Q G r y m < Q := numH_range _ hQ
theorem coinC_range (P G A B C p : Int) (root : Nat → Int) (z a b : Int) {Q : Int} (hQ : 0 < Q) : 0 ≤ coinC P Q G A B C p root z a b ∧ coinC P Q G A B C p root z a b < Q := numH_range _ hQ

theorem beL_bytes (n : Nat) (x : Int) : ∀ y ∈ beL n x, 0 ≤ y ∧ y ≤ 255 := by
  intro y hy
  simp only [beL, List.mem_map] at hy
  obtain ⟨i, _, rfl⟩ := hy
  have := Int.emod_lt_of_pos (x / 2 ^ (8 * (n - 1 - i))) (show (0 : Int) < 256 by decide)
  exact ⟨Int.emod_nonneg _ (by decide), by omega⟩
theorem encInt_byt (n : Int) : ∀ y ∈ encInt n, 0 ≤ y ∧ y ≤ 255 := by
  intro y hy
  simp only [encInt, List.mem_cons] at hy
  rcases hy with rfl | hy
  · omega
  · exact beL_bytes _ _ y hy
theorem encBytes_byt {xs : List Int} (h : ∀ y ∈ xs, 0 ≤ y ∧ y ≤ 255) : ∀ y ∈ encBytes xs, 0 ≤ y ∧ y ≤ 255 := by
  intro y hy
  simp only [encBytes, List.mem_cons, List.mem_append] at hy
  rcases hy with rfl | hy | hy
  · omega
  · exact beL_bytes _ _ y hy
  · exact h y hy
theorem encList_byt {es : List (List Int)} (h : ∀ e ∈ es, ∀ y ∈ e, 0 ≤ y ∧ y ≤ 255) : ∀ y ∈ encList es, 0 ≤ y ∧ y ≤ 255 := by
  intro y hy
  simp only [encList, List.mem_cons, List.mem_append, List.mem_flatten] at hy
  rcases hy with rfl | hy | ⟨e, he, hy⟩
  · omega
  · exact beL_bytes _ _ y hy
  · exact h e he y hy
theorem hList_bytes {h : Nat → Int} (hB : Byt h) : ∀ y ∈ hList h, 0 ≤ y ∧ y ≤ 255 := by
  intro y hy
  simp only [hList, List.mem_map] at hy
  obtain ⟨i, _, rfl⟩ := hy
  exact hB i

/-- The items of a coin's challenge. -/
def coinL (P Q G A B C p : Int) (root : Nat → Int) (z a b : Int) : List (List Int) := [P, Q, G, A, B, C, p].map encInt ++ encBytes (hList root) :: [z, a, b].map encInt
theorem coinL_flat (P Q G A B C p : Int) (root : Nat → Int) (z a b : Int) : (coinL P Q G A B C p root z a b).flatten.length = 127 := by
  simp [coinL, encInt_length, encBytes_length, hList_length]
theorem coinL_byt {P Q G A B C p : Int} {root : Nat → Int} {z a b : Int} (hB : Byt root) : ∀ y ∈ encList (coinL P Q G A B C p root z a b), 0 ≤ y ∧ y ≤ 255 := by
  refine encList_byt fun e he => ?_
  simp only [coinL, List.map_cons, List.map_nil, List.mem_append, List.mem_cons, List.not_mem_nil, or_false] at he
  rcases he with (rfl | rfl | rfl | rfl | rfl | rfl | rfl) | rfl | rfl | rfl | rfl
  all_goals first | exact encInt_byt _ | exact encBytes_byt (hList_bytes hB)

end Go.Sp
