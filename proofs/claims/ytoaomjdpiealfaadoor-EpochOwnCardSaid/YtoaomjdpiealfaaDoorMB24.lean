/- Package unlink: Explains. The reference of package unlink: which factors explain. Package signature: Key, the errors of Challenge, Forge. Package signature: Verify. What an honest signer's answer fits. -/
import Derived.Test.YtoaomjdpiealfaaDoorMB23
import Derived.Test.YtoaomjdpiealfaaDoorMB21
import Derived.Test.YtoaomjdpiealfaaDoorMB22
namespace Go.Proofs.YtoaomjdpiealfaaDoor
open Go.RowKit Go.Sp
set_option maxHeartbeats 4000000
set_option maxRecDepth 20000

/-- What a view and a signature without faults are. -/
theorem flt_ok {P Q G A B C k1 k2 k3 m z x y c r p : Int} {root : Nat → Int} {sz sa sb sr : Int} (h : fltE (kvB P Q G A B C k1 k2 k3) (cvB P Q G A B C k1 k2 k3 m z x y c r) (verB P Q G A B C k1 k2 k3 p root sz sa sb sr) = 0) :
    bvB P Q G A B C = true ∧ (gnB P Q m = true ∧ elB P Q z = true ∧ elB P Q x = true ∧ elB P Q y = true ∧ nzB Q c = true ∧ exB Q r = true) ∧ gnB P Q p = true ∧ elB P Q sz = true ∧ elB P Q sa = true ∧ elB P Q sb = true ∧ exB Q sr = true := by
  unfold fltE at h
  split at h
  · rename_i h1
    split at h
    · rename_i h2
      split at h
      · rename_i h3
        simp only [kvB, Bool.and_eq_true] at h1
        simp only [cvB, Bool.and_eq_true] at h2
        simp only [verB, Bool.and_eq_true, List.all_cons, List.all_nil, Bool.and_true] at h3
        exact ⟨h1.1, ⟨h2.2.1, h2.2.2.1, h2.2.2.2.1, h2.2.2.2.2.1, h2.2.2.2.2.2.1, h2.2.2.2.2.2.2.1⟩, h3.2.1, h3.2.2.2.1.1, h3.2.2.2.1.2.1, h3.2.2.2.1.2.2, h3.2.2.1⟩
      · cases h
    · cases h
  · cases h

end Go.Proofs.YtoaomjdpiealfaaDoor
namespace Go.Proofs.YtoaomjdpiealfaaDoor
open Go.RowKit Go.Sp
set_option maxHeartbeats 4000000
set_option maxRecDepth 20000

theorem gpw_sc {P Q a k : Int} (h0 : 0 ≤ k) (h1 : k < Q) : gpw P Q a k = pwi P a k := by
  unfold gpw pwi
  rw [Int.emod_eq_of_lt h0 h1]

end Go.Proofs.YtoaomjdpiealfaaDoor
namespace Go.Proofs.YtoaomjdpiealfaaDoor
open Go.RowKit Go.Sp
set_option maxHeartbeats 4000000
set_option maxRecDepth 20000

theorem sigScalar_any (P Q G x : Int) (w : World) :
    Calls Tryd.prog 45 #[grp P Q G, .int .i64 x] w fun e w' => e = .returned (.bool (exB Q x)) ∧ Up w w' := by
  have HB : Hid (exB Q x = (decide (0 ≤ x) && decide (x < Q))) := hid rfl
  generalize exB Q x = X at *
  by_cases c1 : x ≥ 0
  case neg =>
    have d1 : decide (x ≥ 0) = false := by simpa using c1
    have hX : X = false := by rw [HB.out, show decide (0 ≤ x) = false from d1]; rfl
    subst hX
    clear c1
    go_enter Tryd.func45, Tryd.ntmps45
    go_wp2
    go_ret
    exact ⟨rfl, (Up.refl w).alloc _⟩
  have d1 : decide (x ≥ 0) = true := by simpa using c1
  have HB2 : Hid (X = decide (x < Q)) := hid (by rw [HB.out, show decide (0 ≤ x) = true from d1]; rfl)
  clear HB
  go_enter Tryd.func45, Tryd.ntmps45
  go_wp2
  go_ret
  exact ⟨by rw [HB2.out]; rfl, (Up.refl w).alloc _⟩

theorem sgen_el {P Q G : Int} (hg : gvB P Q G = true) : elB P Q G = true := by
  have g := gv_iff.1 hg
  have g5 := g.G2
  exact el_iff.2 ⟨by omega, g.GP, g.GQ⟩

/-- The first error of a group and a number that ought to be a scalar. -/
theorem sigKey_any (P Q G x : Int) (w : World) (hP : -9223372036854775808 ≤ P) (hQ : Q ≤ 9223372036854775807) (hT : Tab w) :
    Calls Tryd.prog 21 #[grp P Q G, .int .i64 x] w fun e w' => e = .returned (.tuple #[.int .i64 (orZ (errE (gvB P Q G) (exB Q x)) (pwi P G x)), .int .i64 (errE (gvB P Q G) (exB Q x))]) ∧ Up w w' := by
  have M1 := hid (fun w' (hU : Up w w') => sigCheck_any P Q G (.slice none 0 0) [] w' hP hQ (hT.up hU) (ints_none w'))
  have M2 := hid (fun w' => sigScalar_any P Q G x w')
  have M3 := hid (fun w' (hU : Up w w') (hg : gvB P Q G = true) (hx : exB Q x = true) => gpw_sc (P := P) (a := G) (exB_iff.1 hx).1 (exB_iff.1 hx).2 ▸ gPower_ok P Q G G x w' hQ (hT.up hU) hg (sgen_el hg) (by have := (exB_iff.1 hx).1; omega) (by have := (exB_iff.1 hx).2; omega))
  rw [show chkI P Q G [] = if gvB P Q G = true then 0 else 1 by unfold chkI; simp] at M1
  generalize pwi P G x = V at *
  generalize gvB P Q G = b1 at *
  generalize exB Q x = b2 at *
  clear hT
  go_enter Tryd.func21, Tryd.ntmps21
  go_wp2_with fail
  refine (M1.out _ ((Up.refl w).alloc _)).mono ?_
  rintro e w1 ⟨rfl, hU1⟩
  have HA1 := hid (box_reads rfl hU1)
  have HU1 := hid (((Up.refl w).alloc _).trans hU1)
  clear hU1
  obtain ⟨c0, c1, c2⟩ := HA1.out
  cases b1
  · go_wp2
    go_ret2
    exact ⟨rfl, HU1.out⟩
  go_wp2_with fail
  refine (M2.out _).mono ?_
  rintro e w2 ⟨rfl, hU2⟩
  have HA2 := hid (HA1.out.up hU2)
  have HU2 := hid (HU1.out.trans hU2)
  clear hU2 HA1 HU1 c0 c1 c2
  obtain ⟨c0, c1, c2⟩ := HA2.out
  cases b2
  · go_wp2
    go_ret2
    exact ⟨rfl, HU2.out⟩
  go_wp2_with fail
  refine (M3.out _ HU2.out (by trivial) (by trivial)).mono ?_
  rintro e w3 ⟨rfl, hU3⟩
  have HU3 := hid (HU2.out.trans hU3)
  clear hU3 HA2 HU2 c0 c1 c2
  go_wp2
  go_ret2
  exact ⟨rfl, HU3.out⟩

theorem sigChallenge_bad (P Q G r y E : Int) (v : Value) (w : World) (hP : -9223372036854775808 ≤ P) (hQ : Q ≤ 9223372036854775807) (hT : Tab w) (hE : chkI P Q G [r, y] = E) (h0 : (E != 0) = true) :
    Calls Tryd.prog 50 #[grp P Q G, .int .i64 r, .int .i64 y, v] w fun e w' => e = .returned (.tuple #[.int .i64 0, .int .i64 E]) ∧ Up w w' := by
  have HT := hid hT
  have HE := hid hE
  clear hT hE
  go_enter Tryd.func50, Tryd.ntmps50
  go_wp2_with fail
  refine (sigCheck_any P Q G _ [r, y] _ hP hQ (HT.out.up (((Up.refl w).alloc _).alloc _)) (ints_two (by go_simp) (by go_simp))).mono ?_
  rintro e w1 ⟨rfl, hU1⟩
  rw [HE.out]
  go_wp2
  go_ret2
  exact ⟨rfl, (((Up.refl w).alloc _).alloc _).trans hU1⟩

theorem sigChallenge_long (P Q G r y : Int) (v : Value) (m : List Int) (w : World) (hP : -9223372036854775808 ≤ P) (hQ : Q ≤ 9223372036854775807) (hT : Tab w) (hE : chkI P Q G [r, y] = 0) (hv : SeqAt .u8 w v m) (hl : 16384 < m.length) :
    Calls Tryd.prog 50 #[grp P Q G, .int .i64 r, .int .i64 y, v] w fun e w' => e = .returned (.tuple #[.int .i64 0, .int .i64 5]) ∧ Up w w' := by
  have HT := hid hT
  have HE := hid hE
  obtain ⟨va, vc, rfl, _, _⟩ := hv.shape
  obtain ⟨n, hn⟩ : ∃ n, m.length = n := ⟨_, rfl⟩
  rw [hn] at hl
  rw [hn]
  have dl : decide ((n : Int) > 16384) = true := by simp; omega
  clear hT hE hv hn
  go_enter Tryd.func50, Tryd.ntmps50
  go_wp2_with fail
  refine (sigCheck_any P Q G _ [r, y] _ hP hQ (HT.out.up (((Up.refl w).alloc _).alloc _)) (ints_two (by go_simp) (by go_simp))).mono ?_
  rintro e w1 ⟨rfl, hU1⟩
  rw [HE.out]
  go_wp2
  go_ret2
  exact ⟨rfl, (((Up.refl w).alloc _).alloc _).trans hU1⟩

/-- The first error of a challenge's arguments. -/
def sigE (P Q G r y : Int) (n : Nat) : Int := if chkI P Q G [r, y] = 0 then (if n ≤ 16384 then 0 else 5) else chkI P Q G [r, y]
theorem sigChallenge_any (P Q G r y : Int) (v : Value) (m : List Int) (w : World) (hP : -9223372036854775808 ≤ P) (hQ : Q ≤ 9223372036854775807) (hT : Tab w) (hS : TabS w) (hv : SeqAt .u8 w v m) (hm : ∀ x ∈ m, 0 ≤ x ∧ x ≤ 255) :
    Calls Tryd.prog 50 #[grp P Q G, .int .i64 r, .int .i64 y, v] w fun e w' => e = .returned (.tuple #[.int .i64 (orZ (sigE P Q G r y m.length) (sigC P Q G r y m)), .int .i64 (sigE P Q G r y m.length)]) ∧ Up w w' := by
  by_cases h : chkI P Q G [r, y] = 0
  · obtain ⟨hg, hx⟩ := chk_cases h
    by_cases hl : m.length ≤ 16384
    · rw [show sigE P Q G r y m.length = 0 by rw [sigE, if_pos h, if_pos hl]]
      exact sigChallenge_ok P Q G r y v m w hT hS hg (hx r (by simp)) (hx y (by simp)) hv hl hm
    · rw [show sigE P Q G r y m.length = 5 by rw [sigE, if_pos h, if_neg hl]]
      exact sigChallenge_long P Q G r y v m w hP hQ hT h hv (by omega)
  · rw [show sigE P Q G r y m.length = chkI P Q G [r, y] by rw [sigE, if_neg h]]
    rw [show orZ (chkI P Q G [r, y]) (sigC P Q G r y m) = 0 by rw [orZ, if_neg h]]
    exact sigChallenge_bad P Q G r y _ v w hP hQ hT rfl (by simp [h])

/-- The commitment that fits. -/
def frgV (P Q G y c s : Int) : Int := pwi P G s * gpw P Q y (-c) % P
def frgE (P Q G y c s : Int) : Int := errE (gvB P Q G) (elB P Q y && (exB Q c && exB Q s))
theorem frgV_el {P Q G y c s : Int} (hg : gvB P Q G = true) (hy : elB P Q y = true) : elB P Q (frgV P Q G y c s) = true := by
  have g := gv_iff.1 hg
  have g2 := g.P4
  have g3 := g.Q3
  exact el_mul (by omega) (by omega) (el_pw (by omega) (by omega) (sgen_el hg) _) (gpw_el (by omega) (by omega) hy _)

theorem sigForge_any (P Q G y c s : Int) (w : World) (hP : -9223372036854775808 ≤ P) (hQ : Q ≤ 9223372036854775807) (hT : Tab w) :
    Calls Tryd.prog 49 #[grp P Q G, .int .i64 y, .int .i64 c, .int .i64 s] w fun e w' => e = .returned (.tuple #[.int .i64 (orZ (frgE P Q G y c s) (frgV P Q G y c s)), .int .i64 (frgE P Q G y c s)]) ∧ Up w w' := by
  have M1 := hid (fun w' (v' : Value) (hU : Up w w') (hv' : IntsAt w' v' [y]) => sigCheck_any P Q G v' [y] w' hP hQ (hT.up hU) hv')
  have M2 := hid (fun w' => sigScalar_any P Q G c w')
  have M3 := hid (fun w' => sigScalar_any P Q G s w')
  have M4 := hid (fun w' (hU : Up w w') (hg : gvB P Q G = true) (hx : exB Q s = true) => gpw_sc (P := P) (a := G) (exB_iff.1 hx).1 (exB_iff.1 hx).2 ▸ gPower_ok P Q G G s w' hQ (hT.up hU) hg (sgen_el hg) (by have := (exB_iff.1 hx).1; omega) (by have := (exB_iff.1 hx).2; omega))
  have M5 := hid (fun w' (hU : Up w w') (hg : gvB P Q G = true) (hy : elB P Q y = true) (hx : exB Q c = true) => gPower_ok P Q G y (-c) w' hQ (hT.up hU) hg hy (by have := (exB_iff.1 hx).2; omega) (by have := (exB_iff.1 hx).1; omega))
  have M6 := hid (fun w' (hU : Up w w') (hg : gvB P Q G = true) (hy : elB P Q y = true) => gMul_ok P Q G (pwi P G s) (gpw P Q y (-c)) w' hQ (hT.up hU) hg (by have g := gv_iff.1 hg; have g2 := g.P4; have g3 := g.Q3; exact el_pw (by omega) (by omega) (sgen_el hg) _) (by have g := gv_iff.1 hg; have g2 := g.P4; have g3 := g.Q3; exact gpw_el (by omega) (by omega) hy _))
  have HW : Hid (exB Q c = true → IntKind.i64.wrap (-c) = -c) := hid (fun h => by have h1 := exB_iff.1 h; rw [IntKind.wrap_i64]; omega)
  rw [show chkI P Q G [y] = errE (gvB P Q G) (elB P Q y) by unfold chkI errE; simp] at M1
  unfold frgE frgV
  generalize pwi P G s = V1 at *
  generalize gpw P Q y (-c) = V2 at *
  generalize V1 * V2 % P = V at *
  generalize gvB P Q G = b1 at *
  generalize elB P Q y = b2 at *
  generalize exB Q c = b3 at *
  generalize exB Q s = b4 at *
  clear hT
  obtain ⟨o, ho⟩ : ∃ o, w.heap.size = o := ⟨_, rfl⟩
  have HO := hid ho
  clear ho
  go_enter Tryd.func49, Tryd.ntmps49
  go_wp2_with fail
  refine (M1.out _ _ (((Up.refl w).alloc _).alloc _) (ints_one (by go_simp))).mono ?_
  rintro e w1 ⟨rfl, hU1⟩
  have HA1 := hid ((((nums_three (w := w) (t := 23) HO.out).up ((Up.refl _).alloc _)).up hU1))
  have HU1 := hid ((((Up.refl w).alloc _).alloc _).trans hU1)
  rw [HO.out]
  clear hU1
  obtain ⟨c0, c1, c2⟩ := HA1.out
  cases b1
  · go_wp2
    go_ret2
    exact ⟨rfl, HU1.out⟩
  cases b2
  · go_wp2
    go_ret2
    exact ⟨rfl, HU1.out⟩
  go_wp2_with fail
  refine (M2.out _).mono ?_
  rintro e w2 ⟨rfl, hU2⟩
  have HA2 := hid (HA1.out.up hU2)
  have HU2 := hid (HU1.out.trans hU2)
  clear hU2 HA1 HU1 c0 c1 c2
  obtain ⟨c0, c1, c2⟩ := HA2.out
  cases b3
  · go_wp2
    go_ret2
    exact ⟨rfl, HU2.out⟩
  have hw := HW.out rfl
  go_wp2_with fail
  refine (M3.out _).mono ?_
  rintro e w3 ⟨rfl, hU3⟩
  have HA3 := hid (HA2.out.up hU3)
  have HU3 := hid (HU2.out.trans hU3)
  clear hU3 HA2 HU2 c0 c1 c2
  obtain ⟨c0, c1, c2⟩ := HA3.out
  cases b4
  · go_wp2
    go_ret2
    exact ⟨rfl, HU3.out⟩
  go_wp2_with fail
  refine (M4.out _ HU3.out (by trivial) (by trivial)).mono ?_
  rintro e w4 ⟨rfl, hU4⟩
  have HA4 := hid (HA3.out.up hU4)
  have HU4 := hid (HU3.out.trans hU4)
  clear hU4 HA3 HU3 c0 c1 c2
  obtain ⟨c0, c1, c2⟩ := HA4.out
  go_wp2_with fail
  try rw [hw]
  refine (M5.out _ HU4.out (by trivial) (by trivial) (by trivial)).mono ?_
  rintro e w5 ⟨rfl, hU5⟩
  have HA5 := hid (HA4.out.up hU5)
  have HU5 := hid (HU4.out.trans hU5)
  clear hU5 HA4 HU4 c0 c1 c2
  obtain ⟨c0, c1, c2⟩ := HA5.out
  go_wp2_with fail
  refine (M6.out _ HU5.out (by trivial) (by trivial)).mono ?_
  rintro e w6 ⟨rfl, hU6⟩
  have HU6 := hid (HU5.out.trans hU6)
  clear hU6 HA5 HU5 c0 c1 c2
  go_wp2
  go_ret2
  exact ⟨rfl, HU6.out⟩
end Go.Proofs.YtoaomjdpiealfaaDoor
namespace Go.Proofs.YtoaomjdpiealfaaDoor
open Go.RowKit Go.Sp
set_option maxHeartbeats 4000000
set_option maxRecDepth 20000

def SigAt (w : World) (b : Nat) (x y : Int) : Prop := w.cell? ⟨b, 0, none⟩ = some (.int .i64 x) ∧ w.cell? ⟨b, 1, none⟩ = some (.int .i64 y)
theorem SigAt.up {w w' : World} {b : Nat} {x y : Int} (h : SigAt w b x y) (hU : Up w w') : SigAt w' b x y :=
  have hl := cell_lt h.1
  ⟨by rw [hU.cell hl]; exact h.1, by rw [hU.cell hl]; exact h.2⟩
theorem nums_two {w : World} {r : Nat} {x y : Int} {t : TypeId} (hr : w.heap.size = r) : SigAt (w.alloc (.cells #[.int .i64 x, .int .i64 y] t)) r x y := by
  have hb := alloc_at w (.cells #[.int .i64 x, .int .i64 y] t) r hr.symm
  exact ⟨by simp [World.cell?, hb], by simp [World.cell?, hb]⟩

def verS (P Q G y : Int) (m : List Int) (c s : Int) : Bool := decide (frgE P Q G y c s = 0) && (decide (m.length ≤ 16384) && decide (sigC P Q G (frgV P Q G y c s) y m = c))
theorem frgE_ok {P Q G y c s : Int} (h : frgE P Q G y c s = 0) : gvB P Q G = true ∧ elB P Q y = true ∧ exB Q c = true ∧ exB Q s = true := by
  unfold frgE errE at h
  by_cases h1 : gvB P Q G = true
  · rw [if_pos h1] at h
    by_cases h2 : (elB P Q y && (exB Q c && exB Q s)) = true
    · simp at h2
      exact ⟨h1, h2.1, h2.2.1, h2.2.2⟩
    · rw [if_neg h2] at h; cases h
  · rw [if_neg h1] at h; cases h
theorem frgE_sig {P Q G y c s : Int} {n : Nat} (h : frgE P Q G y c s = 0) : sigE P Q G (frgV P Q G y c s) y n = if n ≤ 16384 then 0 else 5 := by
  obtain ⟨h1, h2, _, _⟩ := frgE_ok h
  unfold sigE
  rw [if_pos (chkI_ok h1 (by simp [frgV_el h1 h2, h2]))]

theorem sigVerify_any (P Q G y c s : Int) (v : Value) (m : List Int) (w : World) (hP : -9223372036854775808 ≤ P) (hQ : Q ≤ 9223372036854775807) (hT : Tab w) (hS : TabS w) (hv : SeqAt .u8 w v m) (hm : ∀ x ∈ m, 0 ≤ x ∧ x ≤ 255) :
    Calls Tryd.prog 24 #[grp P Q G, .int .i64 y, v, .agg #[.int .i64 c, .int .i64 s]] w fun e w' => e = .returned (.bool (verS P Q G y m c s)) ∧ Up w w' := by
  have M1 := hid (fun w' (hU : Up w w') => sigForge_any P Q G y c s w' hP hQ (hT.up hU))
  have M2 := hid (fun w' (hU : Up w w') (r : Int) => sigChallenge_any P Q G r y v m w' hP hQ (hT.up hU) (hS.up hU) (hv.up hU) hm)
  have HE := hid (fun h : frgE P Q G y c s = 0 => frgE_sig (n := m.length) h)
  have HB : Hid (verS P Q G y m c s = (decide (frgE P Q G y c s = 0) && (decide (m.length ≤ 16384) && decide (sigC P Q G (frgV P Q G y c s) y m = c)))) := hid rfl
  generalize verS P Q G y m c s = T at *
  generalize frgV P Q G y c s = V at *
  generalize frgE P Q G y c s = E at *
  replace M2 := hid (fun w' hU => M2.out w' hU V)
  obtain ⟨va, vc, rfl, _, _⟩ := hv.shape
  clear hT hS hv hm
  obtain ⟨o, ho⟩ : ∃ o, w.heap.size = o := ⟨_, rfl⟩
  have HO := hid ho
  clear ho
  go_enter Tryd.func24, Tryd.ntmps24
  go_wp2_with fail
  refine (M1.out _ (((Up.refl w).alloc _).alloc _)).mono ?_
  rintro e w1 ⟨rfl, hU1⟩
  have HA1 := hid ((((nums_three (w := w) (t := 23) HO.out).up ((Up.refl _).alloc _)).up hU1))
  have HS1 := hid ((nums_two (r := o + 1) (t := 48) (x := c) (y := s) (by have := HO.out; simp; omega)).up hU1)
  have HU1 := hid ((((Up.refl w).alloc _).alloc _).trans hU1)
  rw [HO.out]
  clear hU1
  obtain ⟨c0, c1, c2⟩ := HA1.out
  obtain ⟨d0, d1⟩ := HS1.out
  by_cases hE : E = 0
  case neg =>
    have hE' : (E != 0) = true := by simpa using hE
    have hX : T = false := by rw [HB.out, show decide (E = 0) = false by simpa using hE]; rfl
    subst hX
    clear hE
    go_wp2
    go_ret
    exact ⟨rfl, HU1.out⟩
  subst hE
  have hE2 := HE.out rfl
  rw [hE2] at M2
  have HB2 : Hid (T = (decide (m.length ≤ 16384) && decide (sigC P Q G V y m = c))) := hid (by rw [HB.out]; rfl)
  clear HB HE hE2
  generalize sigC P Q G V y m = D at *
  rw [show orZ 0 V = V from rfl]
  go_wp2_with fail
  refine (M2.out _ HU1.out).mono ?_
  rintro e w2 ⟨rfl, hU2⟩
  have HS2 := hid (HS1.out.up hU2)
  have HU2 := hid (HU1.out.trans hU2)
  clear hU2 HS1 HU1 HA1 c0 c1 c2 d0 d1
  obtain ⟨d0, d1⟩ := HS2.out
  by_cases hl : m.length ≤ 16384
  case neg =>
    have hX : T = false := by rw [HB2.out, show decide (m.length ≤ 16384) = false by simpa using hl]; rfl
    subst hX
    rw [if_neg hl]
    clear hl
    go_wp2
    go_ret
    exact ⟨rfl, HU2.out⟩
  have hX : T = decide (D = c) := by rw [HB2.out, show decide (m.length ≤ 16384) = true by simpa using hl]; rfl
  subst hX
  rw [if_pos hl, show orZ 0 D = D from rfl]
  clear hl HB2
  go_wp2
  go_ret
  refine ⟨?_, HU2.out⟩
  exact congrArg (fun b => Ending.returned (.bool b)) (by rw [Bool.eq_iff_iff]; simp)
end Go.Proofs.YtoaomjdpiealfaaDoor
namespace Go.Proofs.YtoaomjdpiealfaaDoor
open Go.RowKit Go.Sp

theorem frgV_pow {P Q G y c s : Int} (h0 : 0 ≤ s) (h1 : s < Q) : frgV P Q G y c s = gpw P Q G s * gpw P Q y (-c) % P := by rw [frgV, gpw_sc h0 h1]
theorem honest_fits {P Q G x k c : Int} (hg : gvB P Q G = true) (hx : exB Q x = true) (hk : exB Q k = true) : frgV P Q G (pwi P G x) c ((k + c * x % Q) % Q) = pwi P G k := by
  have g := gv_iff.1 hg
  have g2 := g.P4
  have g3 := g.Q3
  obtain ⟨x0, x1⟩ := exB_iff.1 hx
  obtain ⟨k0, k1⟩ := exB_iff.1 hk
  have hG := sgen_el hg
  rw [frgV_pow (Int.emod_nonneg _ (by omega)) (Int.emod_lt_of_pos _ (by omega)), ← gpw_sc (Q := Q) x0 x1, ← gpw_sc (Q := Q) k0 k1, gpw_mul (by omega) (by omega) hG, gpw_add (by omega) (by omega) hG]
  refine gpw_base_mod ?_
  rw [Int.add_emod, Int.emod_emod, ← Int.add_emod, Int.add_assoc, Int.add_emod, Int.add_emod (c * x % Q), Int.emod_emod, ← Int.add_emod (c * x), ← Int.add_emod]
  congr 1
  rw [Int.mul_neg, Int.mul_comm x c]
  omega
theorem eml (a b m : Int) : a % m * b % m = a * b % m := by rw [Int.mul_emod, Int.emod_emod, ← Int.mul_emod]
theorem emr (a b m : Int) : a * (b % m) % m = a * b % m := by rw [Int.mul_emod, Int.emod_emod, ← Int.mul_emod]
theorem undo {P Q y c : Int} (hP : 2 ≤ P) (hQ : 1 ≤ Q) (hy : elB P Q y = true) : gpw P Q y c * gpw P Q y (-c) % P = 1 := by
  rw [gpw_add hP hQ hy, show c + -c = 0 by omega]; exact gpw_zero hP
theorem fits_back {P Q G y c s : Int} (hg : gvB P Q G = true) (hy : elB P Q y = true) (h0 : 0 ≤ s) (h1 : s < Q) : frgV P Q G y c s * gpw P Q y c % P = gpw P Q G s := by
  have g := gv_iff.1 hg
  have g2 := g.P4
  have g3 := g.Q3
  have u := undo (c := c) (show 2 ≤ P by omega) (show 1 ≤ Q by omega) hy
  obtain ⟨r0, r1⟩ := gpw_nonneg (P := P) (Q := Q) (a := G) (m := s) (by omega)
  rw [frgV, ← gpw_sc (Q := Q) h0 h1, eml, Int.mul_assoc, Int.mul_comm (gpw P Q y (-c)), ← emr, u, Int.mul_one]
  exact Int.emod_eq_of_lt r0 r1
theorem one_fit {P Q G y c s x : Int} (hg : gvB P Q G = true) (hy : elB P Q y = true) (h0 : 0 ≤ s) (h1 : s < Q) (hx : elB P Q x = true) : x * gpw P Q y c % P = gpw P Q G s ↔ x = frgV P Q G y c s := by
  have g := gv_iff.1 hg
  have g2 := g.P4
  have g3 := g.Q3
  obtain ⟨x0, x1, _⟩ := el_iff.1 hx
  constructor
  · intro h
    have u := undo (c := c) (show 2 ≤ P by omega) (show 1 ≤ Q by omega) hy
    rw [frgV, ← gpw_sc (Q := Q) h0 h1, ← h, eml, Int.mul_assoc, ← emr, u, Int.mul_one]
    exact (Int.emod_eq_of_lt (by omega) x1).symm
  · intro h
    rw [h]
    exact fits_back hg hy h0 h1
end Go.Proofs.YtoaomjdpiealfaaDoor
