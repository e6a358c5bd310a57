/- Commitments: what is given, Commit, Open, Add, Scale, Shift. Commitments: Commit, Open, Add, Scale, Shift; the reference. The examples of layer 10. The examples of layer 15; the reference's bases and commitments. Restrictive signatures: elements, messages, scalars, powers. -/
import Derived.Test.YtoaomjdpiealfaaGreatDoorMB12
import Derived.Test.YtoaomjdpiealfaaGreatDoorMB5
import Derived.Test.YtoaomjdpiealfaaGreatDoorMB4
import Derived.Test.YtoaomjdpiealfaaGreatDoorMB7
import Derived.LoopN
import Derived.Deep.RegionWith
namespace Go.Proofs.YtoaomjdpiealfaaGreatDoor
open Go.RowKit Go.Sp
set_option maxHeartbeats 2000000
set_option maxRecDepth 20000

/-- The error of bases, scalars, and elements. -/
def givE (P Q G A B C : Int) (ss es : List Int) : Int :=
  if bvB P Q G A B C = true then (if ss.all (exB Q) = true ∧ es.all (elB P Q) = true then 0 else 2) else 1

theorem all_of {p : Int → Bool} {xs : List Int} (h : ∀ j, j < xs.length → p (xs.getD j 0) = true) : xs.all p = true := by
  rw [List.all_eq_true]
  intro x hx
  obtain ⟨j, hj, rfl⟩ := List.getElem_of_mem hx
  have := h j hj
  simpa [hj] using this

/-- The commitment to m with r. -/
def comV (P Q G C m r : Int) : Int := gpw P Q G m * gpw P Q C r % P

theorem com_prV {P Q G A B C m r : Int} (hb : bvB P Q G A B C = true) (hm : exB Q m = true) (hr : exB Q r = true) : prE P Q G [G, C] [m, r] = 0 ∧ prV P Q G [G, C] [m, r] = comV P Q G C m r := by
  obtain ⟨hg, _, _, _, hc⟩ := bv_iff.1 hb
  have g := gv_iff.1 hg
  have g2 := g.P4
  have g5 := g.G2
  have hG : elB P Q G = true := el_iff.2 ⟨by omega, g.GP, g.GQ⟩
  have h0 : prE P Q G [G, C] [m, r] = 0 := prE_zero.2 ⟨hg, rfl, by simp, by simp [hG, hc], by simp [hm, hr]⟩
  refine ⟨h0, ?_⟩
  rw [prV, if_pos h0]
  show (1 * gpw P Q G m % P) * gpw P Q C r % P = _
  rw [Int.one_mul, show gpw P Q G m % P = gpw P Q G m from Int.emod_eq_of_lt (gpw_nonneg (by omega)).1 (gpw_nonneg (by omega)).2]
  rfl

theorem com_el {P Q G A B C m r : Int} (hb : bvB P Q G A B C = true) : elB P Q (comV P Q G C m r) = true := by
  obtain ⟨hg, _, _, _, hc⟩ := bv_iff.1 hb
  have g := gv_iff.1 hg
  have g2 := g.P4
  have g3 := g.Q3
  have g5 := g.G2
  have hG : elB P Q G = true := el_iff.2 ⟨by omega, g.GP, g.GQ⟩
  exact el_mul (by omega) (by omega) (gpw_el (by omega) (by omega) hG m) (gpw_el (by omega) (by omega) hc r)

end Go.Proofs.YtoaomjdpiealfaaGreatDoor
namespace Go.Proofs.YtoaomjdpiealfaaGreatDoor
open Go.RowKit Go.Sp
set_option maxHeartbeats 2000000
set_option maxRecDepth 20000

theorem giv_zero {P Q G A B C : Int} {ss es : List Int} : givE P Q G A B C ss es = 0 ↔ bvB P Q G A B C = true ∧ (∀ x ∈ ss, exB Q x = true) ∧ ∀ x ∈ es, elB P Q x = true := by
  unfold givE
  by_cases h : bvB P Q G A B C = true
  · rw [if_pos h]
    by_cases h3 : ss.all (exB Q) = true ∧ es.all (elB P Q) = true
    · rw [if_pos h3]
      exact ⟨fun _ => ⟨h, List.all_eq_true.1 h3.1, List.all_eq_true.1 h3.2⟩, fun _ => rfl⟩
    · rw [if_neg h3]
      constructor
      · intro h; omega
      · rintro ⟨_, h4, h5⟩
        exact absurd ⟨List.all_eq_true.2 h4, List.all_eq_true.2 h5⟩ h3
  · rw [if_neg h]
    constructor
    · intro h; omega
    · rintro ⟨h1, _⟩
      exact absurd h1 h

theorem ints_none (w : World) : IntsAt w (.slice none 0 0) [] := ⟨by simp, none, 0, rfl, fun h => absurd rfl h⟩

/-- A commitment, or 0. -/
def comR (P Q G A B C m r : Int) : Int := if givE P Q G A B C [m, r] [] = 0 then comV P Q G C m r else 0

end Go.Proofs.YtoaomjdpiealfaaGreatDoor
namespace Go.Proofs.YtoaomjdpiealfaaGreatDoor
open Go.RowKit Go.Sp Go.Sort
set_option maxHeartbeats 400000

theorem gv_small : gvB 23 11 4 = true := by decide +kernel

/-- A slice over a block that holds just its elements. -/
theorem ints_blk {w : World} {b cap n : Nat} {xs : List Int} {t : TypeId} {fr : Nat × Nat} (hb : w.heap[b]? = some (.cells (xs.map (Value.int .i64)).toArray t fr)) (hn : n = xs.length) (hl : xs.length ≤ 9223372036854775807) : IntsAt w (.slice (some ⟨b, 0, none⟩) n cap) xs := by
  subst hn
  exact ints_at hl fun i hi => by simp [World.cell?, hb, hi]

end Go.Proofs.YtoaomjdpiealfaaGreatDoor
namespace Go.Proofs.YtoaomjdpiealfaaGreatDoor
open Go.RowKit Go.Sp
set_option maxHeartbeats 2000000
set_option maxRecDepth 20000

theorem ints_four {w : World} {b cap : Nat} {x y z u : Int} (h : w.cell? ⟨b, 0, none⟩ = some (.int .i64 x)) (h1 : w.cell? ⟨b, 1, none⟩ = some (.int .i64 y)) (h2 : w.cell? ⟨b, 2, none⟩ = some (.int .i64 z)) (h3 : w.cell? ⟨b, 3, none⟩ = some (.int .i64 u)) : IntsAt w (.slice (some ⟨b, 0, none⟩) 4 cap) [x, y, z, u] :=
  ints_at (xs := [x, y, z, u]) (by simp) fun i hi => by
    have : i = 0 ∨ i = 1 ∨ i = 2 ∨ i = 3 := by simp at hi; omega
    rcases this with rfl | rfl | rfl | rfl
    · exact h
    · exact h1
    · exact h2
    · exact h3

theorem second_grp {w w1 : World} {o : Obj} {P Q G : Int} (hU : Up ((w.alloc o).alloc (.cells #[.int .i64 P, .int .i64 Q, .int .i64 G] 23)) w1) : GrpAt w1 (w.heap.size + 1) P Q G := by
  have h := box_reads (w := w.alloc o) rfl hU
  simpa using h

theorem rbValid_any (P Q G A B C : Int) (w : World) (hP : -9223372036854775808 ≤ P) (hQ : Q ≤ 9223372036854775807) :
    Calls Tryz.prog 69 #[bas P Q G A B C] w fun e w' => e = .returned (.bool (bvB P Q G A B C)) ∧ Up w w' := by
  have HB : Hid (bvB P Q G A B C = (gvB P Q G && (A != 1) && (B != 1) && (C != 1) && elB P Q A && elB P Q B && elB P Q C)) := hid (by
    simp only [bvB, gnB, List.all_cons, List.all_nil, Bool.and_true]
    cases gvB P Q G <;> cases (A != 1) <;> cases (B != 1) <;> cases (C != 1) <;> cases elB P Q A <;> cases elB P Q B <;> rfl)
  generalize bvB P Q G A B C = X at *
  go_enter Tryz.func69, Tryz.ntmps69
  go_wp2_with fail
  have HA := hid ((bas_reads (o := .cells #[.int .i64 P, .int .i64 Q, .int .i64 G, .int .i64 A, .int .i64 B, .int .i64 C] 49) rfl ((Up.refl (w.alloc _)).alloc (.cells #[.int .i64 P, .int .i64 Q, .int .i64 G] 23))))
  have HG := hid (second_grp (w := w) (o := .cells #[.int .i64 P, .int .i64 Q, .int .i64 G, .int .i64 A, .int .i64 B, .int .i64 C] 49) (P := P) (Q := Q) (G := G) (Up.refl _))
  refine (rValid_any P Q G _ hP hQ).mono ?_
  rintro e w1 ⟨rfl, hU1⟩
  have HA1 := hid (HA.out.up hU1)
  have HG1 := hid (HG.out.up hU1)
  have HU1 := hid ((((Up.refl w).alloc _).alloc _).trans hU1)
  clear hU1 HA HG
  obtain ⟨⟨c0, c1, c2⟩, c3, c4, c5⟩ := HA1.out
  obtain ⟨e0, e1, e2⟩ := HG1.out
  by_cases hg : gvB P Q G = true
  case neg =>
    have hg' : gvB P Q G = false := by simpa using hg
    have hX : X = false := by rw [HB.out, hg']; rfl
    subst hX
    rw [hg']
    clear hg hg'
    go_wp2
    go_ret
    exact ⟨rfl, HU1.out⟩
  have g := gv_iff.1 hg
  have g1 := g.P61
  have g2 := g.P4
  have g3 := g.Q3
  have HB1 : Hid (X = ((A != 1) && (B != 1) && (C != 1) && elB P Q A && elB P Q B && elB P Q C)) := hid (by rw [HB.out, hg]; rfl)
  rw [hg]
  clear hg g HB
  by_cases ha : A = 1
  case pos =>
    have d : (A != 1) = false := by simp [ha]
    have hX : X = false := by rw [HB1.out, d]; rfl
    subst hX
    clear ha
    go_wp2
    go_ret
    exact ⟨rfl, HU1.out⟩
  have da : (A != 1) = true := by simpa using ha
  by_cases hb : B = 1
  case pos =>
    have d : (B != 1) = false := by simp [hb]
    have hX : X = false := by rw [HB1.out, da, d]; rfl
    subst hX
    clear ha hb
    go_wp2
    go_ret
    exact ⟨rfl, HU1.out⟩
  have db : (B != 1) = true := by simpa using hb
  by_cases hc : C = 1
  case pos =>
    have d : (C != 1) = false := by simp [hc]
    have hX : X = false := by rw [HB1.out, da, db, d]; rfl
    subst hX
    clear ha hb hc
    go_wp2
    go_ret
    exact ⟨rfl, HU1.out⟩
  have dc : (C != 1) = true := by simpa using hc
  have HB2 : Hid (X = (elB P Q A && elB P Q B && elB P Q C)) := hid (by rw [HB1.out, da, db, dc]; rfl)
  clear ha hb hc HB1
  go_wp2_with fail
  refine (rMember_any P Q G A _ g1 (by omega) hQ).mono ?_
  rintro e w2 ⟨rfl, hU2⟩
  have HA2 := hid (HA1.out.up hU2)
  have HG2 := hid (HG1.out.up hU2)
  have HU2 := hid (HU1.out.trans hU2)
  clear hU2 c0 c1 c2 c3 c4 c5 e0 e1 e2 HA1 HG1
  obtain ⟨⟨c0, c1, c2⟩, c3, c4, c5⟩ := HA2.out
  obtain ⟨e0, e1, e2⟩ := HG2.out
  by_cases h1 : elB P Q A = true
  case neg =>
    have h1' : elB P Q A = false := by simpa using h1
    have hX : X = false := by rw [HB2.out, h1']; rfl
    subst hX
    rw [h1']
    clear h1 h1'
    go_wp2
    go_ret
    exact ⟨rfl, HU2.out⟩
  have HB3 : Hid (X = (elB P Q B && elB P Q C)) := hid (by rw [HB2.out, h1]; rfl)
  rw [h1]
  clear h1 HB2
  go_wp2_with fail
  refine (rMember_any P Q G B _ g1 (by omega) hQ).mono ?_
  rintro e w3 ⟨rfl, hU3⟩
  have HA3 := hid (HA2.out.up hU3)
  have HG3 := hid (HG2.out.up hU3)
  have HU3 := hid (HU2.out.trans hU3)
  clear hU3 c0 c1 c2 c3 c4 c5 e0 e1 e2 HA2 HG2
  obtain ⟨⟨c0, c1, c2⟩, c3, c4, c5⟩ := HA3.out
  obtain ⟨e0, e1, e2⟩ := HG3.out
  by_cases h2 : elB P Q B = true
  case neg =>
    have h2' : elB P Q B = false := by simpa using h2
    have hX : X = false := by rw [HB3.out, h2']; rfl
    subst hX
    rw [h2']
    clear h2 h2'
    go_wp2
    go_ret
    exact ⟨rfl, HU3.out⟩
  have HB4 : Hid (X = elB P Q C) := hid (by rw [HB3.out, h2]; rfl)
  rw [h2]
  clear h2 HB3
  go_wp2_with fail
  refine (rMember_any P Q G C _ g1 (by omega) hQ).mono ?_
  rintro e w4 ⟨rfl, hU4⟩
  rw [← HB4.out]
  go_wp2
  go_ret
  exact ⟨rfl, HU3.out.trans hU4⟩

end Go.Proofs.YtoaomjdpiealfaaGreatDoor
namespace Go.Proofs.YtoaomjdpiealfaaGreatDoor
open Go.RowKit Go.Sp
set_option maxHeartbeats 2000000
set_option maxRecDepth 20000

/-- A scalar other than 0. -/
def nzB (Q x : Int) : Bool := decide (1 ≤ x) && decide (x < Q)
theorem nzB_iff {Q x : Int} : nzB Q x = true ↔ 1 ≤ x ∧ x < Q := by simp [nzB]
/-- A power, by a scalar. -/
def pwi (P a e : Int) : Int := pw a e.toNat P
theorem pwi_range {P a e : Int} (h : 0 < P) : 0 ≤ pwi P a e ∧ pwi P a e < P := ⟨pw_nonneg _ _ h, pw_lt _ _ h⟩

theorem resElement_any (P Q G A B C x : Int) (w : World) (g1 : P < 2305843009213693952) (g3 : 0 ≤ Q) (hQ : Q ≤ 9223372036854775807) :
    Calls Tryz.prog 163 #[bas P Q G A B C, .int .i64 x] w fun e w' => e = .returned (.bool (elB P Q x)) ∧ Up w w' := by
  have HB : Hid (elB P Q x = (decide (1 ≤ x) && decide (x < P) && decide (pw x Q.toNat P = 1))) := hid rfl
  generalize elB P Q x = X at *
  by_cases c1 : x < 1
  case pos =>
    have hB : X = false := by rw [HB.out]; simp; omega
    subst hB
    go_enter Tryz.func163, Tryz.ntmps163
    go_wp2
    go_ret
    exact ⟨rfl, (Up.refl w).alloc _⟩
  have d1 : decide (x < 1) = false := by simpa using c1
  by_cases c2 : x ≥ P
  case pos =>
    have hB : X = false := by rw [HB.out]; simp; omega
    subst hB
    have d2 : decide (x ≥ P) = true := by simpa using c2
    go_enter Tryz.func163, Tryz.ntmps163
    go_wp2
    go_ret
    exact ⟨rfl, (Up.refl w).alloc _⟩
  have d2 : decide (x ≥ P) = false := by simpa using c2
  have HB2 : Hid (X = decide (pw x Q.toNat P = 1)) := hid (by rw [HB.out, show decide (1 ≤ x) = true by simp; omega, show decide (x < P) = true by simp; omega]; rfl)
  clear HB
  go_enter Tryz.func163, Tryz.ntmps163
  go_wp2_with fail
  refine (Pow_ok x Q P _ (by omega) (by omega) g3 hQ g1).mono ?_
  rintro e w3 ⟨rfl, hU3⟩
  go_wp2
  go_ret
  refine ⟨?_, ((Up.refl w).alloc _).trans hU3⟩
  rw [HB2.out]
  exact congrArg (fun b => Ending.returned (.bool b)) (by rw [Bool.eq_iff_iff]; simp)

theorem resMessage_any (P Q G A B C x : Int) (w : World) (g1 : P < 2305843009213693952) (g3 : 0 ≤ Q) (hQ : Q ≤ 9223372036854775807) :
    Calls Tryz.prog 158 #[bas P Q G A B C, .int .i64 x] w fun e w' => e = .returned (.bool (gnB P Q x)) ∧ Up w w' := by
  by_cases hx : x = 1
  · have d1 : (x != 1) = false := by simpa using hx
    have hB : gnB P Q x = false := by simp [gnB, hx]
    rw [hB]
    clear hx hB
    go_enter Tryz.func158, Tryz.ntmps158
    go_wp2
    go_ret
    exact ⟨rfl, (Up.refl w).alloc _⟩
  · have d1 : (x != 1) = true := by simpa using hx
    have hB : gnB P Q x = elB P Q x := by simp [gnB, hx]
    rw [hB]
    clear hx hB
    go_enter Tryz.func158, Tryz.ntmps158
    go_wp2_with fail
    refine (resElement_any P Q G A B C x _ g1 g3 hQ).mono ?_
    rintro e w3 ⟨rfl, hU3⟩
    go_wp2
    go_ret
    exact ⟨rfl, ((Up.refl w).alloc _).trans hU3⟩

theorem resScalar_any (P Q G A B C x : Int) (w : World) :
    Calls Tryz.prog 160 #[bas P Q G A B C, .int .i64 x] w fun e w' => e = .returned (.bool (exB Q x)) ∧ Up w w' := by
  have HB : Hid (exB Q x = (decide (0 ≤ x) && decide (x < Q))) := hid rfl
  generalize exB Q x = X at *
  by_cases c1 : x ≥ 0
  case neg =>
    have hB : X = false := by rw [HB.out]; simp; omega
    subst hB
    have d1 : decide (x ≥ 0) = false := by simpa using c1
    go_enter Tryz.func160, Tryz.ntmps160
    go_wp2
    go_ret
    exact ⟨rfl, (Up.refl w).alloc _⟩
  have d1 : decide (x ≥ 0) = true := by simpa using c1
  have HB2 : Hid (X = decide (x < Q)) := hid (by rw [HB.out, show decide (0 ≤ x) = true by simp; omega]; rfl)
  clear HB
  go_enter Tryz.func160, Tryz.ntmps160
  go_wp2
  go_ret
  exact ⟨by rw [HB2.out]; rfl, (Up.refl w).alloc _⟩

theorem resNonzero_any (P Q G A B C x : Int) (w : World) :
    Calls Tryz.prog 159 #[bas P Q G A B C, .int .i64 x] w fun e w' => e = .returned (.bool (nzB Q x)) ∧ Up w w' := by
  have HB : Hid (nzB Q x = (decide (1 ≤ x) && decide (x < Q))) := hid rfl
  generalize nzB Q x = X at *
  by_cases c1 : x > 0
  case neg =>
    have hB : X = false := by rw [HB.out]; simp; omega
    subst hB
    have d1 : decide (x > 0) = false := by simpa using c1
    go_enter Tryz.func159, Tryz.ntmps159
    go_wp2
    go_ret
    exact ⟨rfl, (Up.refl w).alloc _⟩
  have d1 : decide (x > 0) = true := by simpa using c1
  have HB2 : Hid (X = decide (x < Q)) := hid (by rw [HB.out, show decide (1 ≤ x) = true by simp; omega]; rfl)
  clear HB
  go_enter Tryz.func159, Tryz.ntmps159
  go_wp2
  go_ret
  exact ⟨by rw [HB2.out]; rfl, (Up.refl w).alloc _⟩

theorem resPower_ok (P Q G A B C a e : Int) (w : World) (h0 : 0 ≤ a) (h1 : a < P) (h2 : 0 ≤ e) (h3 : e ≤ 9223372036854775807) (g1 : P < 2305843009213693952) :
    Calls Tryz.prog 161 #[bas P Q G A B C, .int .i64 a, .int .i64 e] w fun r w' => r = .returned (.int .i64 (pwi P a e)) ∧ Up w w' := by
  have HV : Hid (pwi P a e = pw a e.toNat P) := hid rfl
  go_enter Tryz.func161, Tryz.ntmps161
  go_wp2_with fail
  refine (Pow_ok a e P _ h0 h1 h2 h3 g1).mono ?_
  rintro r w3 ⟨rfl, hU3⟩
  go_wp2
  go_ret
  exact ⟨by rw [HV.out]; rfl, ((Up.refl w).alloc _).trans hU3⟩

/-- A key as a value. -/
abbrev bkey (x y z : Int) : Value := .agg #[.int .i64 x, .int .i64 y, .int .i64 z]

theorem Up.there {w w' : World} {b n : Nat} (hU : Up w w') (hb : b < w.heap.size) (h : w.there b 0 n) : w'.there b 0 n := fun j hj => by
  obtain ⟨h1, h2⟩ := h j hj
  exact ⟨by rw [hU.cell hb]; exact h1, by rw [hU.frozen hb]; exact h2⟩
end Go.Proofs.YtoaomjdpiealfaaGreatDoor
