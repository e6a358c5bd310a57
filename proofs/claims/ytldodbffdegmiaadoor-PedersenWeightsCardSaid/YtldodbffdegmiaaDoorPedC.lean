/- Commitments: Commit, Open, Add, Scale, Shift; the reference. -/
import Derived.Test.YtldodbffdegmiaaDoorPedB
import Derived.Test.YtldodbffdegmiaaDoorQuiet
namespace Go.Proofs.YtldodbffdegmiaaDoor
open Go.RowKit Go.Sp
set_option maxHeartbeats 2000000
set_option maxRecDepth 20000

theorem giv_zero {P Q G A B C : Int} {ss es : List Int} : givE P Q G A B C ss es = 0 ↔ bvB P Q G A B C = true ∧ (∀ x ∈ ss, exB Q x = true) ∧ ∀ x ∈ es, elB P Q x = true := by
  unfold givE
  by_cases h : bvB P Q G A B C = true
  · rw [if_pos h]
    by_cases h3 : ss.all (exB Q) = true ∧ es.all (elB P Q) = true
    · rw [if_pos h3]
      exact ⟨fun _ => ⟨h, List.all_eq_true.1 h3.1, List.all_eq_true.1 h3.2⟩, fun _ => rfl⟩
    · rw [if_neg h3]
      constructor
      · intro h; omega
      · rintro ⟨_, h4, h5⟩
        exact absurd ⟨List.all_eq_true.2 h4, List.all_eq_true.2 h5⟩ h3
  · rw [if_neg h]
    constructor
    · intro h; omega
    · rintro ⟨h1, _⟩
      exact absurd h1 h

theorem ints_none (w : World) : IntsAt w (.slice none 0 0) [] := ⟨by simp, none, 0, rfl, fun h => absurd rfl h⟩

/-- A commitment, or 0. -/
def comR (P Q G A B C m r : Int) : Int := if givE P Q G A B C [m, r] [] = 0 then comV P Q G C m r else 0

theorem Commit_any (P Q G A B C m r : Int) (w : World) (hP : -9223372036854775808 ≤ P) (hQ : Q ≤ 9223372036854775807) (hT : Tab w) :
    Calls Tryd.prog 62 #[bas P Q G A B C, .int .i64 m, .int .i64 r] w fun e w' => e = .returned (.tuple #[.int .i64 (comR P Q G A B C m r), .int .i64 (givE P Q G A B C [m, r] [])]) ∧ Up w w' := by
  have HT := hid hT
  obtain ⟨E, hE⟩ : ∃ E, givE P Q G A B C [m, r] [] = E := ⟨_, rfl⟩
  have HE := hid hE
  have HR : Hid (comR P Q G A B C m r = if E = 0 then comV P Q G C m r else 0) := hid (by rw [comR, hE])
  obtain ⟨R, hR⟩ : ∃ R, comR P Q G A B C m r = R := ⟨_, rfl⟩
  rw [hR] at HR
  rw [hE, hR]
  clear hT hE hR
  go_enter Tryd.func62, Tryd.ntmps62
  go_wp2_with fail
  refine (given_any P Q G A B C _ _ [m, r] [] _ hP hQ (HT.out.up (((Up.refl w).alloc _).alloc _)) (ints_two (by go_simp) (by go_simp)) (ints_none _)).mono ?_
  rintro e w1 ⟨rfl, hU1⟩
  rw [HE.out]
  have HA := hid ((bas_reads (o := .cells #[.int .i64 P, .int .i64 Q, .int .i64 G, .int .i64 A, .int .i64 B, .int .i64 C] 73) rfl ((Up.refl (w.alloc _)).alloc _)).up hU1)
  have HU1 := hid ((((Up.refl w).alloc _).alloc _).trans hU1)
  clear hU1
  by_cases h0 : E = 0
  · have hR : R = comV P Q G C m r := by rw [HR.out, if_pos h0]
    have HRV := hid hR
    obtain ⟨hb, hs, _⟩ := giv_zero.1 (HE.out.trans h0)
    have HV := hid (com_prV (A := A) (B := B) hb (hs m (by simp)) (hs r (by simp))).2
    subst h0
    obtain ⟨⟨c0, c1, c2⟩, c3, c4, c5⟩ := HA.out
    clear hR hb hs
    go_wp2_with fail
    refine (commit_any P Q G A B C m r _ hP hQ (HT.out.up HU1.out)).mono ?_
    rintro e w2 ⟨rfl, hU2⟩
    rw [HV.out, ← HRV.out]
    go_wp2
    go_ret2
    exact ⟨rfl, HU1.out.trans hU2⟩
  · have hR : R = 0 := by rw [HR.out, if_neg h0]
    have d : (E != 0) = true := by simpa using h0
    subst hR
    clear h0
    go_wp2
    go_ret2
    exact ⟨rfl, HU1.out⟩

theorem Open_any (P Q G A B C c m r : Int) (w : World) (hP : -9223372036854775808 ≤ P) (hQ : Q ≤ 9223372036854775807) (hT : Tab w) :
    Calls Tryd.prog 64 #[bas P Q G A B C, .int .i64 c, .int .i64 m, .int .i64 r] w fun e w' => e = .returned (.bool (givE P Q G A B C [m, r] [] == 0 && c == comR P Q G A B C m r)) ∧ Up w w' := by
  have HC := hid (fun w' (hU : Up w w') => Commit_any P Q G A B C m r w' hP hQ (hT.up hU))
  generalize givE P Q G A B C [m, r] [] = E at *
  generalize comR P Q G A B C m r = R at *
  clear hT
  go_enter Tryd.func64, Tryd.ntmps64
  go_wp2_with fail
  refine (HC.out _ ((Up.refl w).alloc _)).mono ?_
  rintro e w1 ⟨rfl, hU1⟩
  by_cases hE : E = 0
  · have d : (E == 0) = true := by simpa using hE
    subst hE
    go_wp2
    go_ret
    exact ⟨rfl, ((Up.refl w).alloc _).trans hU1⟩
  · have d : (E == 0) = false := by simpa using hE
    clear hE
    go_wp2
    go_ret
    exact ⟨by rw [d]; rfl, ((Up.refl w).alloc _).trans hU1⟩

theorem Add_any (P Q G A B C c d : Int) (w : World) (hP : -9223372036854775808 ≤ P) (hQ : Q ≤ 9223372036854775807) (hT : Tab w) :
    Calls Tryd.prog 72 #[bas P Q G A B C, .int .i64 c, .int .i64 d] w fun e w' => e = .returned (.tuple #[.int .i64 (if givE P Q G A B C [] [c, d] = 0 then c * d % P else 0), .int .i64 (givE P Q G A B C [] [c, d])]) ∧ Up w w' := by
  have HT := hid hT
  obtain ⟨E, hE⟩ : ∃ E, givE P Q G A B C [] [c, d] = E := ⟨_, rfl⟩
  have HE := hid hE
  rw [hE]
  obtain ⟨R, hR⟩ : ∃ R, (if E = 0 then c * d % P else 0) = R := ⟨_, rfl⟩
  have HR := hid hR
  rw [hR]
  clear hT hE hR
  go_enter Tryd.func72, Tryd.ntmps72
  go_wp2_with fail
  refine (given_any P Q G A B C _ _ [] [c, d] _ hP hQ (HT.out.up (((Up.refl w).alloc _).alloc _)) (ints_none _) (ints_two (by go_simp) (by go_simp))).mono ?_
  rintro e w1 ⟨rfl, hU1⟩
  rw [HE.out]
  have HA := hid ((bas_reads (o := .cells #[.int .i64 P, .int .i64 Q, .int .i64 G, .int .i64 A, .int .i64 B, .int .i64 C] 73) rfl ((Up.refl (w.alloc _)).alloc _)).up hU1)
  have HU1 := hid ((((Up.refl w).alloc _).alloc _).trans hU1)
  clear hU1
  by_cases h0 : E = 0
  · obtain ⟨hb, _, he⟩ := giv_zero.1 (HE.out.trans h0)
    have Hg := hid (bv_iff.1 hb).1
    have Hc := hid (he c (by simp))
    have Hd := hid (he d (by simp))
    subst h0
    obtain ⟨⟨c0, c1, c2⟩, c3, c4, c5⟩ := HA.out
    clear hb he
    go_wp2_with fail
    refine (gMul_ok P Q G c d _ hQ (HT.out.up HU1.out) Hg.out Hc.out Hd.out).mono ?_
    rintro e w2 ⟨rfl, hU2⟩
    rw [show c * d % P = R from HR.out]
    go_wp2
    go_ret2
    exact ⟨rfl, HU1.out.trans hU2⟩
  · have hR : R = 0 := by rw [← HR.out, if_neg h0]
    have d1 : (E != 0) = true := by simpa using h0
    subst hR
    clear h0
    go_wp2
    go_ret2
    exact ⟨rfl, HU1.out⟩

theorem Scale_any (P Q G A B C c k : Int) (w : World) (hP : -9223372036854775808 ≤ P) (hQ : Q ≤ 9223372036854775807) (hT : Tab w) :
    Calls Tryd.prog 73 #[bas P Q G A B C, .int .i64 c, .int .i64 k] w fun e w' => e = .returned (.tuple #[.int .i64 (if givE P Q G A B C [k] [c] = 0 then gpw P Q c k else 0), .int .i64 (givE P Q G A B C [k] [c])]) ∧ Up w w' := by
  have HT := hid hT
  obtain ⟨E, hE⟩ : ∃ E, givE P Q G A B C [k] [c] = E := ⟨_, rfl⟩
  have HE := hid hE
  rw [hE]
  obtain ⟨R, hR⟩ : ∃ R, (if E = 0 then gpw P Q c k else 0) = R := ⟨_, rfl⟩
  have HR := hid hR
  rw [hR]
  clear hT hE hR
  go_enter Tryd.func73, Tryd.ntmps73
  go_wp2_with fail
  refine (given_any P Q G A B C _ _ [k] [c] _ hP hQ (HT.out.up ((((Up.refl w).alloc _).alloc _).alloc _)) (ints_one (by go_simp)) (ints_one (by go_simp))).mono ?_
  rintro e w1 ⟨rfl, hU1⟩
  rw [HE.out]
  have HA := hid ((bas_reads (o := .cells #[.int .i64 P, .int .i64 Q, .int .i64 G, .int .i64 A, .int .i64 B, .int .i64 C] 73) rfl (((Up.refl (w.alloc _)).alloc _).alloc _)).up hU1)
  have HU1 := hid (((((Up.refl w).alloc _).alloc _).alloc _).trans hU1)
  clear hU1
  by_cases h0 : E = 0
  · obtain ⟨hb, hs, he⟩ := giv_zero.1 (HE.out.trans h0)
    have Hg := hid (bv_iff.1 hb).1
    have Hc := hid (he c (by simp))
    have hk := exB_iff.1 (hs k (by simp))
    subst h0
    obtain ⟨⟨c0, c1, c2⟩, c3, c4, c5⟩ := HA.out
    clear hb he hs
    go_wp2_with fail
    refine (gPower_ok P Q G c k _ hQ (HT.out.up HU1.out) Hg.out Hc.out (by omega) (by omega)).mono ?_
    rintro e w2 ⟨rfl, hU2⟩
    rw [show gpw P Q c k = R from HR.out]
    go_wp2
    go_ret2
    exact ⟨rfl, HU1.out.trans hU2⟩
  · have hR : R = 0 := by rw [← HR.out, if_neg h0]
    have d1 : (E != 0) = true := by simpa using h0
    subst hR
    clear h0
    go_wp2
    go_ret2
    exact ⟨rfl, HU1.out⟩

theorem Shift_any (P Q G A B C c m r : Int) (w : World) (hP : -9223372036854775808 ≤ P) (hQ : Q ≤ 9223372036854775807) (hT : Tab w) :
    Calls Tryd.prog 63 #[bas P Q G A B C, .int .i64 c, .int .i64 m, .int .i64 r] w fun e w' => e = .returned (.tuple #[.int .i64 (if givE P Q G A B C [m, r] [c] = 0 then c * comV P Q G C m r % P else 0), .int .i64 (givE P Q G A B C [m, r] [c])]) ∧ Up w w' := by
  have HT := hid hT
  obtain ⟨E, hE⟩ : ∃ E, givE P Q G A B C [m, r] [c] = E := ⟨_, rfl⟩
  have HE := hid hE
  rw [hE]
  obtain ⟨R, hR⟩ : ∃ R, (if E = 0 then c * comV P Q G C m r % P else 0) = R := ⟨_, rfl⟩
  have HR := hid hR
  rw [hR]
  clear hT hE hR
  go_enter Tryd.func63, Tryd.ntmps63
  go_wp2_with fail
  refine (given_any P Q G A B C _ _ [m, r] [c] _ hP hQ (HT.out.up ((((Up.refl w).alloc _).alloc _).alloc _)) (ints_two (by go_simp) (by go_simp)) (ints_one (by go_simp))).mono ?_
  rintro e w1 ⟨rfl, hU1⟩
  rw [HE.out]
  have HA := hid ((bas_reads (o := .cells #[.int .i64 P, .int .i64 Q, .int .i64 G, .int .i64 A, .int .i64 B, .int .i64 C] 73) rfl (((Up.refl (w.alloc _)).alloc _).alloc _)).up hU1)
  have HU1 := hid (((((Up.refl w).alloc _).alloc _).alloc _).trans hU1)
  clear hU1
  by_cases h0 : E = 0
  · obtain ⟨hb, hs, he⟩ := giv_zero.1 (HE.out.trans h0)
    have Hg := hid (bv_iff.1 hb).1
    have Hc := hid (he c (by simp))
    have HV := hid (com_prV (A := A) (B := B) hb (hs m (by simp)) (hs r (by simp))).2
    have HVe := hid (com_el (m := m) (r := r) hb)
    have HK : Hid (∀ w', Up w1 w' → Calls Tryd.prog 106 #[bas P Q G A B C, .int .i64 m, .int .i64 r] w' fun e w'' => e = .returned (.int .i64 (comV P Q G C m r)) ∧ Up w' w'') := hid (fun w' hU => by
      have h := commit_any P Q G A B C m r w' hP hQ (HT.out.up (HU1.out.trans hU))
      rw [HV.out] at h
      exact h)
    obtain ⟨V, hV⟩ : ∃ V, comV P Q G C m r = V := ⟨_, rfl⟩
    rw [hV] at HVe HK
    have HVV := hid hV
    subst h0
    obtain ⟨⟨c0, c1, c2⟩, c3, c4, c5⟩ := HA.out
    clear hb he hs hV
    go_wp2_with fail
    have f0 := cellF c0
    have f1 := cellF c1
    have f2 := cellF c2
    have f3 := cellF c3
    have f4 := cellF c4
    have f5 := cellF c5
    refine wp_region_up (by kernel_rfl) (by kernel_rfl) ?_
    repeat (go_big_quiet_step ((first
      | (go_at_call 106; exact Calls.up_of (HK.out _ (UpFrom.up _)))
      | (go_at_call 22; exact Calls.up_of (gMul_ok P Q G c V _ hQ (HT.out.up (HU1.out.trans (UpFrom.up _))) Hg.out Hc.out HVe.out)))))
    refine wpQuiet_nil ?_
    rintro _ ⟨p, rfl⟩
    go_wp2
    go_ret2
    exact ⟨by rw [show R = c * V % P from HR.out.symm.trans (by rw [if_pos trivial, HVV.out])]; rfl, HU1.out.trans p.up⟩
  · have hR : R = 0 := by rw [← HR.out, if_neg h0]
    have d1 : (E != 0) = true := by simpa using h0
    subst hR
    clear h0
    go_wp2
    go_ret2
    exact ⟨rfl, HU1.out⟩
end Go.Proofs.YtldodbffdegmiaaDoor
