/- Plain facts on sorted lists of integers. The examples of layer 10. The examples of layer 15; the reference's bases and commitments. Restrictive signatures: elements, messages, scalars, powers. Restrictive signatures: keys, offers, answers. -/
import Derived.Test.YtkimojconidhlaaDoorMB11
import Derived.Test.YtkimojconidhlaaDoorMB8
import Derived.Test.YtkimojconidhlaaDoorMB3
import Derived.LoopN
import Derived.Deep.RegionWith
namespace Go.Proofs.YtkimojconidhlaaDoor
open Go.Sp

theorem isort_perm (xs : List Int) : (isort xs).Perm xs := List.mergeSort_perm _ _

theorem isort_sorted (xs : List Int) : (isort xs).Pairwise (· ≤ ·) :=
  (List.pairwise_mergeSort (le := fun x y : Int => decide (x ≤ y)) (fun _ _ _ h1 h2 => by simp at *; omega) (fun _ _ => by simp; omega) xs).imp (fun h => by simpa using h)

theorem sorted_eq {xs ys : List Int} (h1 : xs.Pairwise (· ≤ ·)) (h2 : ys.Pairwise (· ≤ ·)) (h : xs.Perm ys) : xs = ys :=
  List.Perm.eq_of_pairwise (fun _ _ _ _ h3 h4 => Int.le_antisymm h3 h4) h1 h2 h

theorem isort_eq {xs ys : List Int} (h2 : ys.Pairwise (· ≤ ·)) (h : xs.Perm ys) : isort xs = ys :=
  sorted_eq (isort_sorted xs) h2 ((isort_perm xs).trans h)

theorem isort_small : isort (powList 23 4 (11 : Int).toNat) = [1, 2, 3, 4, 6, 8, 9, 12, 13, 16, 18] :=
  isort_eq (by decide) (by decide +kernel)
end Go.Proofs.YtkimojconidhlaaDoor
namespace Go.Proofs.YtkimojconidhlaaDoor
open Go.RowKit Go.Sp Go.Sort
set_option maxHeartbeats 400000

theorem gv_small : gvB 23 11 4 = true := by decide +kernel

/-- A slice over a block that holds just its elements. -/
theorem ints_blk {w : World} {b cap n : Nat} {xs : List Int} {t : TypeId} {fr : Nat × Nat} (hb : w.heap[b]? = some (.cells (xs.map (Value.int .i64)).toArray t fr)) (hn : n = xs.length) (hl : xs.length ≤ 9223372036854775807) : IntsAt w (.slice (some ⟨b, 0, none⟩) n cap) xs := by
  subst hn
  exact ints_at hl fun i hi => by simp [World.cell?, hb, hi]

end Go.Proofs.YtkimojconidhlaaDoor
namespace Go.Proofs.YtkimojconidhlaaDoor
open Go.RowKit Go.Sp
set_option maxHeartbeats 2000000
set_option maxRecDepth 20000

theorem ints_four {w : World} {b cap : Nat} {x y z u : Int} (h : w.cell? ⟨b, 0, none⟩ = some (.int .i64 x)) (h1 : w.cell? ⟨b, 1, none⟩ = some (.int .i64 y)) (h2 : w.cell? ⟨b, 2, none⟩ = some (.int .i64 z)) (h3 : w.cell? ⟨b, 3, none⟩ = some (.int .i64 u)) : IntsAt w (.slice (some ⟨b, 0, none⟩) 4 cap) [x, y, z, u] :=
  ints_at (xs := [x, y, z, u]) (by simp) fun i hi => by
    have : i = 0 ∨ i = 1 ∨ i = 2 ∨ i = 3 := by simp at hi; omega
    rcases this with rfl | rfl | rfl | rfl
    · exact h
    · exact h1
    · exact h2
    · exact h3

theorem second_grp {w w1 : World} {o : Obj} {P Q G : Int} (hU : Up ((w.alloc o).alloc (.cells #[.int .i64 P, .int .i64 Q, .int .i64 G] 23)) w1) : GrpAt w1 (w.heap.size + 1) P Q G := by
  have h := box_reads (w := w.alloc o) rfl hU
  simpa using h

end Go.Proofs.YtkimojconidhlaaDoor
namespace Go.Proofs.YtkimojconidhlaaDoor
open Go.RowKit Go.Sp
set_option maxHeartbeats 2000000
set_option maxRecDepth 20000

/-- A scalar other than 0. -/
def nzB (Q x : Int) : Bool := decide (1 ≤ x) && decide (x < Q)
theorem nzB_iff {Q x : Int} : nzB Q x = true ↔ 1 ≤ x ∧ x < Q := by simp [nzB]
/-- A power, by a scalar. -/
def pwi (P a e : Int) : Int := pw a e.toNat P
theorem pwi_range {P a e : Int} (h : 0 < P) : 0 ≤ pwi P a e ∧ pwi P a e < P := ⟨pw_nonneg _ _ h, pw_lt _ _ h⟩

theorem resElement_any (P Q G A B C x : Int) (w : World) (g1 : P < 2305843009213693952) (g3 : 0 ≤ Q) (hQ : Q ≤ 9223372036854775807) :
    Calls Tryd.prog 68 #[bas P Q G A B C, .int .i64 x] w fun e w' => e = .returned (.bool (elB P Q x)) ∧ Up w w' := by
  have HB : Hid (elB P Q x = (decide (1 ≤ x) && decide (x < P) && decide (pw x Q.toNat P = 1))) := hid rfl
  generalize elB P Q x = X at *
  by_cases c1 : x < 1
  case pos =>
    have hB : X = false := by rw [HB.out]; simp; omega
    subst hB
    go_enter Tryd.func68, Tryd.ntmps68
    go_wp2
    go_ret
    exact ⟨rfl, (Up.refl w).alloc _⟩
  have d1 : decide (x < 1) = false := by simpa using c1
  by_cases c2 : x ≥ P
  case pos =>
    have hB : X = false := by rw [HB.out]; simp; omega
    subst hB
    have d2 : decide (x ≥ P) = true := by simpa using c2
    go_enter Tryd.func68, Tryd.ntmps68
    go_wp2
    go_ret
    exact ⟨rfl, (Up.refl w).alloc _⟩
  have d2 : decide (x ≥ P) = false := by simpa using c2
  have HB2 : Hid (X = decide (pw x Q.toNat P = 1)) := hid (by rw [HB.out, show decide (1 ≤ x) = true by simp; omega, show decide (x < P) = true by simp; omega]; rfl)
  clear HB
  go_enter Tryd.func68, Tryd.ntmps68
  go_wp2_with fail
  refine (Pow_ok x Q P _ (by omega) (by omega) g3 hQ g1).mono ?_
  rintro e w3 ⟨rfl, hU3⟩
  go_wp2
  go_ret
  refine ⟨?_, ((Up.refl w).alloc _).trans hU3⟩
  rw [HB2.out]
  exact congrArg (fun b => Ending.returned (.bool b)) (by rw [Bool.eq_iff_iff]; simp)

theorem resMessage_any (P Q G A B C x : Int) (w : World) (g1 : P < 2305843009213693952) (g3 : 0 ≤ Q) (hQ : Q ≤ 9223372036854775807) :
    Calls Tryd.prog 49 #[bas P Q G A B C, .int .i64 x] w fun e w' => e = .returned (.bool (gnB P Q x)) ∧ Up w w' := by
  by_cases hx : x = 1
  · have d1 : (x != 1) = false := by simpa using hx
    have hB : gnB P Q x = false := by simp [gnB, hx]
    rw [hB]
    clear hx hB
    go_enter Tryd.func49, Tryd.ntmps49
    go_wp2
    go_ret
    exact ⟨rfl, (Up.refl w).alloc _⟩
  · have d1 : (x != 1) = true := by simpa using hx
    have hB : gnB P Q x = elB P Q x := by simp [gnB, hx]
    rw [hB]
    clear hx hB
    go_enter Tryd.func49, Tryd.ntmps49
    go_wp2_with fail
    refine (resElement_any P Q G A B C x _ g1 g3 hQ).mono ?_
    rintro e w3 ⟨rfl, hU3⟩
    go_wp2
    go_ret
    exact ⟨rfl, ((Up.refl w).alloc _).trans hU3⟩

theorem resNonzero_any (P Q G A B C x : Int) (w : World) :
    Calls Tryd.prog 60 #[bas P Q G A B C, .int .i64 x] w fun e w' => e = .returned (.bool (nzB Q x)) ∧ Up w w' := by
  have HB : Hid (nzB Q x = (decide (1 ≤ x) && decide (x < Q))) := hid rfl
  generalize nzB Q x = X at *
  by_cases c1 : x > 0
  case neg =>
    have hB : X = false := by rw [HB.out]; simp; omega
    subst hB
    have d1 : decide (x > 0) = false := by simpa using c1
    go_enter Tryd.func60, Tryd.ntmps60
    go_wp2
    go_ret
    exact ⟨rfl, (Up.refl w).alloc _⟩
  have d1 : decide (x > 0) = true := by simpa using c1
  have HB2 : Hid (X = decide (x < Q)) := hid (by rw [HB.out, show decide (1 ≤ x) = true by simp; omega]; rfl)
  clear HB
  go_enter Tryd.func60, Tryd.ntmps60
  go_wp2
  go_ret
  exact ⟨by rw [HB2.out]; rfl, (Up.refl w).alloc _⟩

theorem resPower_ok (P Q G A B C a e : Int) (w : World) (h0 : 0 ≤ a) (h1 : a < P) (h2 : 0 ≤ e) (h3 : e ≤ 9223372036854775807) (g1 : P < 2305843009213693952) :
    Calls Tryd.prog 61 #[bas P Q G A B C, .int .i64 a, .int .i64 e] w fun r w' => r = .returned (.int .i64 (pwi P a e)) ∧ Up w w' := by
  have HV : Hid (pwi P a e = pw a e.toNat P) := hid rfl
  go_enter Tryd.func61, Tryd.ntmps61
  go_wp2_with fail
  refine (Pow_ok a e P _ h0 h1 h2 h3 g1).mono ?_
  rintro r w3 ⟨rfl, hU3⟩
  go_wp2
  go_ret
  exact ⟨by rw [HV.out]; rfl, ((Up.refl w).alloc _).trans hU3⟩

/-- A key as a value. -/
abbrev bkey (x y z : Int) : Value := .agg #[.int .i64 x, .int .i64 y, .int .i64 z]

theorem Up.there {w w' : World} {b n : Nat} (hU : Up w w') (hb : b < w.heap.size) (h : w.there b 0 n) : w'.there b 0 n := fun j hj => by
  obtain ⟨h1, h2⟩ := h j hj
  exact ⟨by rw [hU.cell hb]; exact h1, by rw [hU.frozen hb]; exact h2⟩
end Go.Proofs.YtkimojconidhlaaDoor
namespace Go.Proofs.YtkimojconidhlaaDoor
open Go.RowKit Go.Sp
set_option maxHeartbeats 2000000
set_option maxRecDepth 20000

/-- The error of bases (are they valid?) and further arguments (are they in range?). -/
def errE (bv ok : Bool) : Int := if bv = true then (if ok = true then 0 else 2) else 1
/-- A value, or 0 beside an error. -/
def orZ (E v : Int) : Int := if E = 0 then v else 0

theorem three_reads {w w1 : World} {o : Obj} {x y z : Int} {t : TypeId} (hU : Up ((w.alloc o).alloc (.cells #[.int .i64 x, .int .i64 y, .int .i64 z] t)) w1) : GrpAt w1 (w.heap.size + 1) x y z := by
  have h : GrpAt ((w.alloc o).alloc (.cells #[.int .i64 x, .int .i64 y, .int .i64 z] t)) (w.heap.size + 1) x y z :=
    ⟨by go_simp, by go_simp, by go_simp⟩
  exact h.up hU

theorem gn_el {P Q x : Int} (h : gnB P Q x = true) : elB P Q x = true := by
  simp only [gnB, Bool.and_eq_true] at h; exact h.2

theorem blk_three {w : World} {r : Nat} {t : TypeId} {a b c : Value} (h : Blk w r t #[a, b, c]) (x y z : Value) : Blk (((w.setCell ⟨r, 0, none⟩ x).setCell ⟨r, 1, none⟩ y).setCell ⟨r, 2, none⟩ z) r t #[x, y, z] :=
  ((h.wrote 0 x).wrote 1 y).wrote 2 z

/-- What the region of Key keeps. -/
theorem keepB {w0 w w' : World} {o : Nat} {P Q G A B C : Int} (hU : Up w w')
    (h : w.cell? ⟨o, 0, none⟩ = some (.int .i64 P) ∧ w.cell? ⟨o, 1, none⟩ = some (.int .i64 Q) ∧ w.cell? ⟨o, 2, none⟩ = some (.int .i64 G) ∧ w.cell? ⟨o, 3, none⟩ = some (.int .i64 A) ∧ w.cell? ⟨o, 4, none⟩ = some (.int .i64 B) ∧ w.cell? ⟨o, 5, none⟩ = some (.int .i64 C) ∧ Hid (Up w0 w)) :
    w'.cell? ⟨o, 0, none⟩ = some (.int .i64 P) ∧ w'.cell? ⟨o, 1, none⟩ = some (.int .i64 Q) ∧ w'.cell? ⟨o, 2, none⟩ = some (.int .i64 G) ∧ w'.cell? ⟨o, 3, none⟩ = some (.int .i64 A) ∧ w'.cell? ⟨o, 4, none⟩ = some (.int .i64 B) ∧ w'.cell? ⟨o, 5, none⟩ = some (.int .i64 C) ∧ Hid (Up w0 w') :=
  ⟨cellUp hU h.1, cellUp hU h.2.1, cellUp hU h.2.2.1, cellUp hU h.2.2.2.1, cellUp hU h.2.2.2.2.1, cellUp hU h.2.2.2.2.2.1, hid (h.2.2.2.2.2.2.out.trans hU)⟩

theorem keepBStore {w0 w w' : World} {o r : Nat} {P Q G A B C : Int} {x y z : Value} (hr : o ≠ r) (hb : w0.heap.size ≤ r) (hw : w' = ((w.setCell ⟨r, 0, none⟩ x).setCell ⟨r, 1, none⟩ y).setCell ⟨r, 2, none⟩ z)
    (h : w.cell? ⟨o, 0, none⟩ = some (.int .i64 P) ∧ w.cell? ⟨o, 1, none⟩ = some (.int .i64 Q) ∧ w.cell? ⟨o, 2, none⟩ = some (.int .i64 G) ∧ w.cell? ⟨o, 3, none⟩ = some (.int .i64 A) ∧ w.cell? ⟨o, 4, none⟩ = some (.int .i64 B) ∧ w.cell? ⟨o, 5, none⟩ = some (.int .i64 C) ∧ Hid (Up w0 w)) :
    w'.cell? ⟨o, 0, none⟩ = some (.int .i64 P) ∧ w'.cell? ⟨o, 1, none⟩ = some (.int .i64 Q) ∧ w'.cell? ⟨o, 2, none⟩ = some (.int .i64 G) ∧ w'.cell? ⟨o, 3, none⟩ = some (.int .i64 A) ∧ w'.cell? ⟨o, 4, none⟩ = some (.int .i64 B) ∧ w'.cell? ⟨o, 5, none⟩ = some (.int .i64 C) ∧ Hid (Up w0 w') := by
  subst hw
  obtain ⟨h0, h1, h2, h3, h4, h5, hU⟩ := h
  have key : ∀ i, (((w.setCell ⟨r, 0, none⟩ x).setCell ⟨r, 1, none⟩ y).setCell ⟨r, 2, none⟩ z).cell? ⟨o, i, none⟩ = w.cell? ⟨o, i, none⟩ := fun i => by
    rw [World.cell?_setCell_other, World.cell?_setCell_other, World.cell?_setCell_other] <;> exact fun h => hr (congrArg Addr.block h).symm
  refine ⟨(key _).trans h0, (key _).trans h1, (key _).trans h2, (key _).trans h3, (key _).trans h4, (key _).trans h5, hid (((hU.out.setCell ?_ _).setCell ?_ _).setCell ?_ _)⟩ <;> exact hb

theorem keptUp {w0 w : World} {a b c d e f : Prop} (h : a ∧ b ∧ c ∧ d ∧ e ∧ f ∧ Hid (Up w0 w)) : Up w0 w := h.2.2.2.2.2.2.out

theorem resKey_any (P Q G A B C x : Int) (w : World) (hP : -9223372036854775808 ≤ P) (hQ : Q ≤ 9223372036854775807) (hT : Tab w) :
    Calls Tryd.prog 36 #[bas P Q G A B C, .int .i64 x] w fun e w' => e = .returned (.tuple #[bkey (orZ (errE (bvB P Q G A B C) (nzB Q x)) (pwi P G x)) (orZ (errE (bvB P Q G A B C) (nzB Q x)) (pwi P A x)) (orZ (errE (bvB P Q G A B C) (nzB Q x)) (pwi P B x)), .int .i64 (errE (bvB P Q G A B C) (nzB Q x))]) ∧ Up w w' := by
  have HT := hid hT
  clear hT
  go_enter Tryd.func36, Tryd.ntmps36
  go_wp2_with fail
  have HA := hid (bas_reads (o := .cells #[.int .i64 P, .int .i64 Q, .int .i64 G, .int .i64 A, .int .i64 B, .int .i64 C] 25) rfl ((Up.refl (w.alloc _)).alloc (.cells #[.int .i64 0, .int .i64 0, .int .i64 0] 44)))
  have HZ := hid (Blk.new (w := w.alloc (.cells #[.int .i64 P, .int .i64 Q, .int .i64 G, .int .i64 A, .int .i64 B, .int .i64 C] 25)) (t := 44) (cs := #[.int .i64 0, .int .i64 0, .int .i64 0]) (g := w.heap.size + 1) (by simp) rfl)
  refine (bValid_any P Q G A B C _ hP hQ (HT.out.up (((Up.refl w).alloc _).alloc _))).mono ?_
  rintro e w1 ⟨rfl, hU1⟩
  have HA1 := hid (HA.out.up hU1)
  have HZ1 := hid (HZ.out.up hU1)
  have HU1 := hid ((((Up.refl w).alloc _).alloc _).trans hU1)
  clear hU1 HA HZ
  obtain ⟨⟨c0, c1, c2⟩, c3, c4, c5⟩ := HA1.out
  have z0 := HZ1.out.val (i := 0) rfl
  have z1 := HZ1.out.val (i := 1) rfl
  have z2 := HZ1.out.val (i := 2) rfl
  have y0 := HZ1.out.thawed 0
  have y1 := HZ1.out.thawed 1
  have y2 := HZ1.out.thawed 2
  by_cases hg : bvB P Q G A B C = true
  case neg =>
    have hg' : bvB P Q G A B C = false := by simpa using hg
    have Hg := hid hg'
    rw [hg']
    clear hg hg'
    go_wp2
    refine bodyPost_ret (v := .tuple #[bkey 0 0 0, .int .i64 1]) (results_row_tmp Tryd.results36 _ _ (w.heap.size + 1) 44 _ (0, 0) _ (by rfl) (blk_three HZ1.out _ _ _) Tryd.underlying44 rfl (by kernel_rfl)) rfl ⟨by rw [Hg.out]; rfl, ((HU1.out.setCell ?_ _).setCell ?_ _).setCell ?_ _⟩ <;> simp
  have Hb := hid hg
  obtain ⟨hg1, ha, hb, hc⟩ := bv_iff.1 hg
  have g := gv_iff.1 hg1
  have g1 := g.P61
  have g2 := g.P4
  have g3 := g.Q3
  have g4 := g.QP
  have g5 := g.G2
  have g6 := g.GP
  rw [hg]
  clear hg g
  go_wp2_with fail
  refine (resNonzero_any P Q G A B C x _).mono ?_
  rintro e w2 ⟨rfl, hU2⟩
  have HA2 := hid (HA1.out.up hU2)
  have HZ2 := hid (HZ1.out.up hU2)
  have HU2 := hid (HU1.out.trans hU2)
  clear hU2 HA1 HZ1 c0 c1 c2 c3 c4 c5 z0 z1 z2 y0 y1 y2
  obtain ⟨⟨c0, c1, c2⟩, c3, c4, c5⟩ := HA2.out
  by_cases hx : nzB Q x = true
  case neg =>
    have hx' : nzB Q x = false := by simpa using hx
    have z0 := HZ2.out.val (i := 0) rfl
    have z1 := HZ2.out.val (i := 1) rfl
    have z2 := HZ2.out.val (i := 2) rfl
    have y0 := HZ2.out.thawed 0
    have y1 := HZ2.out.thawed 1
    have y2 := HZ2.out.thawed 2
    have Hx := hid hx'
    rw [hx']
    clear hx hx'
    go_wp2
    refine bodyPost_ret (v := .tuple #[bkey 0 0 0, .int .i64 2]) (results_row_tmp Tryd.results36 _ _ (w.heap.size + 1) 44 _ (0, 0) _ (by rfl) (blk_three HZ2.out _ _ _) Tryd.underlying44 rfl (by kernel_rfl)) rfl ⟨by rw [Hb.out, Hx.out]; rfl, ((HU2.out.setCell ?_ _).setCell ?_ _).setCell ?_ _⟩ <;> simp
  obtain ⟨x0, x1⟩ := nzB_iff.1 hx
  have Hx := hid hx
  rw [hx]
  clear hx
  obtain ⟨ha0, ha1, _⟩ := el_iff.1 ha.2
  obtain ⟨hb0, hb1, _⟩ := el_iff.1 hb.2
  have M1 := hid (fun w' => resPower_ok P Q G A B C G x w' (by omega) g6 (by omega) (by omega) g1)
  have M2 := hid (fun w' => resPower_ok P Q G A B C A x w' (by omega) ha1 (by omega) (by omega) g1)
  have M3 := hid (fun w' => resPower_ok P Q G A B C B x w' (by omega) hb1 (by omega) (by omega) g1)
  obtain ⟨X, hX⟩ : ∃ X, pwi P G x = X := ⟨_, rfl⟩
  obtain ⟨Y, hY⟩ : ∃ Y, pwi P A x = Y := ⟨_, rfl⟩
  obtain ⟨Z, hZ⟩ : ∃ Z, pwi P B x = Z := ⟨_, rfl⟩
  rw [hX] at M1
  rw [hY] at M2
  rw [hZ] at M3
  have HX := hid hX
  have HY := hid hY
  have HZv := hid hZ
  clear hX hY hZ
  clear ha hb hc hg1 x0 x1 g1 g2 g3 g4 g5 g6 ha0 ha1 hb0 hb1 hP hQ
  go_wp2_with fail
  have hS0 := And.intro c0 (And.intro c1 (And.intro c2 (And.intro c3 (And.intro c4 (And.intro c5 HU2)))))
  have hS1 := keepB (Up.refl w2).drew hS0
  clear c0 c1 c2 c3 c4 c5
  have hro : w.heap.size ≠ w.heap.size + 1 := by omega
  have hrb : w.heap.size ≤ w.heap.size + 1 := by omega
  go_region_held3 (fun w' => w'.cell? ⟨w.heap.size, 0, none⟩ = some (.int .i64 P) ∧ w'.cell? ⟨w.heap.size, 1, none⟩ = some (.int .i64 Q) ∧ w'.cell? ⟨w.heap.size, 2, none⟩ = some (.int .i64 G) ∧ w'.cell? ⟨w.heap.size, 3, none⟩ = some (.int .i64 A) ∧ w'.cell? ⟨w.heap.size, 4, none⟩ = some (.int .i64 B) ∧ w'.cell? ⟨w.heap.size, 5, none⟩ = some (.int .i64 C) ∧ Hid (Up w w')) (first | exact hS0 | exact hS1 | exact keepBStore hro hrb rfl (by assumption) | exact keepB (by assumption) (by assumption)) (first
    | ((with_reducible (show Calls _ _ #[_, .int .i64 G, _] _ _)); refine (M1.out _).mono ?_; rintro e w3 ⟨rfl, hU3⟩; have hZ3 := HZ2.out.up (Up.trans (by first | exact (Up.refl w2).drew | exact Up.refl w2) hU3))
    | ((with_reducible (show Calls _ _ #[_, .int .i64 A, _] _ _)); refine (M2.out _).mono ?_; rintro e w4 ⟨rfl, hU4⟩; have hZ4 := hZ3.up hU4)
    | ((with_reducible (show Calls _ _ #[_, .int .i64 B, _] _ _)); refine (M3.out _).mono ?_; rintro e w5 ⟨rfl, hU5⟩; have hZ5 := hZ4.up hU5; have z0 := hZ5.val (i := 0) rfl; have z1 := hZ5.val (i := 1) rfl; have z2 := hZ5.val (i := 2) rfl; have y0 := hZ5.thawed 0; have y1 := hZ5.thawed 1; have y2 := hZ5.thawed 2))
  have hZ6 := blk_three hZ5 (.int .i64 X) (.int .i64 Y) (.int .i64 Z)
  go_wp2
  refine bodyPost_ret (v := .tuple #[bkey X Y Z, .int .i64 0]) (results_row_tmp Tryd.results36 _ _ (w.heap.size + 1) 44 _ (0, 0) _ (by rfl) hZ6 Tryd.underlying44 rfl (by kernel_rfl)) rfl ⟨?_, keptUp (by assumption)⟩
  rw [Hb.out, Hx.out, HX.out, HY.out, HZv.out]
  rfl

/-- A key that is valid for bases. -/
def kvB (P Q G A B C x y z : Int) : Bool := bvB P Q G A B C && (gnB P Q x && (gnB P Q y && gnB P Q z))

theorem resValid_any (P Q G A B C x y z : Int) (w : World) (hP : -9223372036854775808 ≤ P) (hQ : Q ≤ 9223372036854775807) (hT : Tab w) :
    Calls Tryd.prog 29 #[bas P Q G A B C, bkey x y z] w fun e w' => e = .returned (.bool (kvB P Q G A B C x y z)) ∧ Up w w' := by
  have HT := hid hT
  have HB : Hid (kvB P Q G A B C x y z = (bvB P Q G A B C && (gnB P Q x && (gnB P Q y && gnB P Q z)))) := hid rfl
  generalize kvB P Q G A B C x y z = X at *
  clear hT
  go_enter Tryd.func29, Tryd.ntmps29
  go_wp2_with fail
  have HA := hid (bas_reads (o := .cells #[.int .i64 P, .int .i64 Q, .int .i64 G, .int .i64 A, .int .i64 B, .int .i64 C] 25) rfl ((Up.refl (w.alloc _)).alloc (.cells #[.int .i64 x, .int .i64 y, .int .i64 z] 44)))
  have HK := hid (three_reads (w := w) (o := .cells #[.int .i64 P, .int .i64 Q, .int .i64 G, .int .i64 A, .int .i64 B, .int .i64 C] 25) (x := x) (y := y) (z := z) (t := 44) (Up.refl _))
  refine (bValid_any P Q G A B C _ hP hQ (HT.out.up (((Up.refl w).alloc _).alloc _))).mono ?_
  rintro e w1 ⟨rfl, hU1⟩
  have HA1 := hid (HA.out.up hU1)
  have HK1 := hid (HK.out.up hU1)
  have HU1 := hid ((((Up.refl w).alloc _).alloc _).trans hU1)
  clear hU1 HA HK
  obtain ⟨⟨c0, c1, c2⟩, c3, c4, c5⟩ := HA1.out
  obtain ⟨e0, e1, e2⟩ := HK1.out
  by_cases hg : bvB P Q G A B C = true
  case neg =>
    have hg' : bvB P Q G A B C = false := by simpa using hg
    have hX : X = false := by rw [HB.out, hg']; rfl
    subst hX
    rw [hg']
    clear hg hg'
    go_wp2
    go_ret
    exact ⟨rfl, HU1.out⟩
  have g := gv_iff.1 (bv_iff.1 hg).1
  have g1 := g.P61
  have g3 := g.Q3
  have HB1 : Hid (X = (gnB P Q x && (gnB P Q y && gnB P Q z))) := hid (by rw [HB.out, hg]; rfl)
  rw [hg]
  clear hg g HB
  go_wp2_with fail
  refine (resMessage_any P Q G A B C x _ g1 (by omega) hQ).mono ?_
  rintro e w2 ⟨rfl, hU2⟩
  have HA2 := hid (HA1.out.up hU2)
  have HK2 := hid (HK1.out.up hU2)
  have HU2 := hid (HU1.out.trans hU2)
  clear hU2 c0 c1 c2 c3 c4 c5 e0 e1 e2 HA1 HK1
  obtain ⟨⟨c0, c1, c2⟩, c3, c4, c5⟩ := HA2.out
  obtain ⟨e0, e1, e2⟩ := HK2.out
  by_cases h1 : gnB P Q x = true
  case neg =>
    have h1' : gnB P Q x = false := by simpa using h1
    have hX : X = false := by rw [HB1.out, h1']; rfl
    subst hX
    rw [h1']
    clear h1 h1'
    go_wp2
    go_ret
    exact ⟨rfl, HU2.out⟩
  have HB3 : Hid (X = (gnB P Q y && gnB P Q z)) := hid (by rw [HB1.out, h1]; rfl)
  rw [h1]
  clear h1 HB1
  go_wp2_with fail
  refine (resMessage_any P Q G A B C y _ g1 (by omega) hQ).mono ?_
  rintro e w3 ⟨rfl, hU3⟩
  have HA3 := hid (HA2.out.up hU3)
  have HK3 := hid (HK2.out.up hU3)
  have HU3 := hid (HU2.out.trans hU3)
  clear hU3 c0 c1 c2 c3 c4 c5 e0 e1 e2 HA2 HK2
  obtain ⟨⟨c0, c1, c2⟩, c3, c4, c5⟩ := HA3.out
  obtain ⟨e0, e1, e2⟩ := HK3.out
  by_cases h2 : gnB P Q y = true
  case neg =>
    have h2' : gnB P Q y = false := by simpa using h2
    have hX : X = false := by rw [HB3.out, h2']; rfl
    subst hX
    rw [h2']
    clear h2 h2'
    go_wp2
    go_ret
    exact ⟨rfl, HU3.out⟩
  have HB4 : Hid (X = gnB P Q z) := hid (by rw [HB3.out, h2]; rfl)
  rw [h2]
  clear h2 HB3
  go_wp2_with fail
  refine (resMessage_any P Q G A B C z _ g1 (by omega) hQ).mono ?_
  rintro e w4 ⟨rfl, hU4⟩
  rw [← HB4.out]
  go_wp2
  go_ret
  exact ⟨rfl, HU3.out.trans hU4⟩
end Go.Proofs.YtkimojconidhlaaDoor
