/- Package unlink: the methods of a field; the first error. Package unlink: which factors explain. Package unlink: Explains. The reference of package unlink: which factors explain. Package signature: Key, the errors of Challenge, Forge. -/
import Derived.Test.YtkimojconidhlaaDoorMB21
import Derived.Test.YtkimojconidhlaaDoorMB17
import Derived.Test.YtkimojconidhlaaDoorMB20
namespace Go.Proofs.YtkimojconidhlaaDoor
open Go.RowKit Go.Sp
set_option maxHeartbeats 4000000
set_option maxRecDepth 20000

/-- The first error of a view and a signature. -/
def fltE (kv cv ver : Bool) : Int := if kv = true then (if cv = true then (if ver = true then 0 else 12) else 11) else 1

end Go.Proofs.YtkimojconidhlaaDoor
namespace Go.Proofs.YtkimojconidhlaaDoor
open Go.RowKit Go.Sp
set_option maxHeartbeats 4000000
set_option maxRecDepth 20000

/-- Do factors explain a signature with a challenge by a view? -/
def fitB (P Q G vm vz va vb vc vr s u v p c sz sa sb sr : Int) : Bool :=
  facB Q s u v && (sr == (vr * u % Q + v) % Q && (c == vc * u % Q && (p == pwi P vm s && (sz == pwi P vz s && (sa == pwi P va u * pwi P G v % P && sb == pwi P vb (s * u % Q) * pwi P p v % P)))))

end Go.Proofs.YtkimojconidhlaaDoor
namespace Go.Proofs.YtkimojconidhlaaDoor
open Go.RowKit Go.Sp
set_option maxHeartbeats 4000000
set_option maxRecDepth 20000

/-- What a view and a signature without faults are. -/
theorem flt_ok {P Q G A B C k1 k2 k3 m z x y c r p : Int} {root : Nat → Int} {sz sa sb sr : Int} (h : fltE (kvB P Q G A B C k1 k2 k3) (cvB P Q G A B C k1 k2 k3 m z x y c r) (verB P Q G A B C k1 k2 k3 p root sz sa sb sr) = 0) :
    bvB P Q G A B C = true ∧ (gnB P Q m = true ∧ elB P Q z = true ∧ elB P Q x = true ∧ elB P Q y = true ∧ nzB Q c = true ∧ exB Q r = true) ∧ gnB P Q p = true ∧ elB P Q sz = true ∧ elB P Q sa = true ∧ elB P Q sb = true ∧ exB Q sr = true := by
  unfold fltE at h
  split at h
  · rename_i h1
    split at h
    · rename_i h2
      split at h
      · rename_i h3
        simp only [kvB, Bool.and_eq_true] at h1
        simp only [cvB, Bool.and_eq_true] at h2
        simp only [verB, Bool.and_eq_true, List.all_cons, List.all_nil, Bool.and_true] at h3
        exact ⟨h1.1, ⟨h2.2.1, h2.2.2.1, h2.2.2.2.1, h2.2.2.2.2.1, h2.2.2.2.2.2.1, h2.2.2.2.2.2.2.1⟩, h3.2.1, h3.2.2.2.1.1, h3.2.2.2.1.2.1, h3.2.2.2.1.2.2, h3.2.2.1⟩
      · cases h
    · cases h
  · cases h

end Go.Proofs.YtkimojconidhlaaDoor
namespace Go.Proofs.YtkimojconidhlaaDoor
open Go.RowKit Go.Sp
set_option maxHeartbeats 4000000
set_option maxRecDepth 20000

theorem gpw_sc {P Q a k : Int} (h0 : 0 ≤ k) (h1 : k < Q) : gpw P Q a k = pwi P a k := by
  unfold gpw pwi
  rw [Int.emod_eq_of_lt h0 h1]

end Go.Proofs.YtkimojconidhlaaDoor
namespace Go.Proofs.YtkimojconidhlaaDoor
open Go.RowKit Go.Sp
set_option maxHeartbeats 4000000
set_option maxRecDepth 20000

theorem sigScalar_any (P Q G x : Int) (w : World) :
    Calls Tryd.prog 23 #[grp P Q G, .int .i64 x] w fun e w' => e = .returned (.bool (exB Q x)) ∧ Up w w' := by
  have HB : Hid (exB Q x = (decide (0 ≤ x) && decide (x < Q))) := hid rfl
  generalize exB Q x = X at *
  by_cases c1 : x ≥ 0
  case neg =>
    have d1 : decide (x ≥ 0) = false := by simpa using c1
    have hX : X = false := by rw [HB.out, show decide (0 ≤ x) = false from d1]; rfl
    subst hX
    clear c1
    go_enter Tryd.func23, Tryd.ntmps23
    go_wp2
    go_ret
    exact ⟨rfl, (Up.refl w).alloc _⟩
  have d1 : decide (x ≥ 0) = true := by simpa using c1
  have HB2 : Hid (X = decide (x < Q)) := hid (by rw [HB.out, show decide (0 ≤ x) = true from d1]; rfl)
  clear HB
  go_enter Tryd.func23, Tryd.ntmps23
  go_wp2
  go_ret
  exact ⟨by rw [HB2.out]; rfl, (Up.refl w).alloc _⟩

theorem sgen_el {P Q G : Int} (hg : gvB P Q G = true) : elB P Q G = true := by
  have g := gv_iff.1 hg
  have g5 := g.G2
  exact el_iff.2 ⟨by omega, g.GP, g.GQ⟩

/-- The first error of a group and a number that ought to be a scalar. -/
theorem sigKey_any (P Q G x : Int) (w : World) (hP : -9223372036854775808 ≤ P) (hQ : Q ≤ 9223372036854775807) (hT : Tab w) :
    Calls Tryd.prog 6 #[grp P Q G, .int .i64 x] w fun e w' => e = .returned (.tuple #[.int .i64 (orZ (errE (gvB P Q G) (exB Q x)) (pwi P G x)), .int .i64 (errE (gvB P Q G) (exB Q x))]) ∧ Up w w' := by
  have M1 := hid (fun w' (hU : Up w w') => sigCheck_any P Q G (.slice none 0 0) [] w' hP hQ (hT.up hU) (ints_none w'))
  have M2 := hid (fun w' => sigScalar_any P Q G x w')
  have M3 := hid (fun w' (hU : Up w w') (hg : gvB P Q G = true) (hx : exB Q x = true) => gpw_sc (P := P) (a := G) (exB_iff.1 hx).1 (exB_iff.1 hx).2 ▸ gPower_ok P Q G G x w' hQ (hT.up hU) hg (sgen_el hg) (by have := (exB_iff.1 hx).1; omega) (by have := (exB_iff.1 hx).2; omega))
  rw [show chkI P Q G [] = if gvB P Q G = true then 0 else 1 by unfold chkI; simp] at M1
  generalize pwi P G x = V at *
  generalize gvB P Q G = b1 at *
  generalize exB Q x = b2 at *
  clear hT
  go_enter Tryd.func6, Tryd.ntmps6
  go_wp2_with fail
  refine (M1.out _ ((Up.refl w).alloc _)).mono ?_
  rintro e w1 ⟨rfl, hU1⟩
  have HA1 := hid (box_reads rfl hU1)
  have HU1 := hid (((Up.refl w).alloc _).trans hU1)
  clear hU1
  obtain ⟨c0, c1, c2⟩ := HA1.out
  cases b1
  · go_wp2
    go_ret2
    exact ⟨rfl, HU1.out⟩
  go_wp2_with fail
  refine (M2.out _).mono ?_
  rintro e w2 ⟨rfl, hU2⟩
  have HA2 := hid (HA1.out.up hU2)
  have HU2 := hid (HU1.out.trans hU2)
  clear hU2 HA1 HU1 c0 c1 c2
  obtain ⟨c0, c1, c2⟩ := HA2.out
  cases b2
  · go_wp2
    go_ret2
    exact ⟨rfl, HU2.out⟩
  go_wp2_with fail
  refine (M3.out _ HU2.out (by trivial) (by trivial)).mono ?_
  rintro e w3 ⟨rfl, hU3⟩
  have HU3 := hid (HU2.out.trans hU3)
  clear hU3 HA2 HU2 c0 c1 c2
  go_wp2
  go_ret2
  exact ⟨rfl, HU3.out⟩

theorem sigChallenge_bad (P Q G r y E : Int) (v : Value) (w : World) (hP : -9223372036854775808 ≤ P) (hQ : Q ≤ 9223372036854775807) (hT : Tab w) (hE : chkI P Q G [r, y] = E) (h0 : (E != 0) = true) :
    Calls Tryd.prog 33 #[grp P Q G, .int .i64 r, .int .i64 y, v] w fun e w' => e = .returned (.tuple #[.int .i64 0, .int .i64 E]) ∧ Up w w' := by
  have HT := hid hT
  have HE := hid hE
  clear hT hE
  go_enter Tryd.func33, Tryd.ntmps33
  go_wp2_with fail
  refine (sigCheck_any P Q G _ [r, y] _ hP hQ (HT.out.up (((Up.refl w).alloc _).alloc _)) (ints_two (by go_simp) (by go_simp))).mono ?_
  rintro e w1 ⟨rfl, hU1⟩
  rw [HE.out]
  go_wp2
  go_ret2
  exact ⟨rfl, (((Up.refl w).alloc _).alloc _).trans hU1⟩

theorem sigChallenge_long (P Q G r y : Int) (v : Value) (m : List Int) (w : World) (hP : -9223372036854775808 ≤ P) (hQ : Q ≤ 9223372036854775807) (hT : Tab w) (hE : chkI P Q G [r, y] = 0) (hv : SeqAt .u8 w v m) (hl : 16384 < m.length) :
    Calls Tryd.prog 33 #[grp P Q G, .int .i64 r, .int .i64 y, v] w fun e w' => e = .returned (.tuple #[.int .i64 0, .int .i64 5]) ∧ Up w w' := by
  have HT := hid hT
  have HE := hid hE
  obtain ⟨va, vc, rfl, _, _⟩ := hv.shape
  obtain ⟨n, hn⟩ : ∃ n, m.length = n := ⟨_, rfl⟩
  rw [hn] at hl
  rw [hn]
  have dl : decide ((n : Int) > 16384) = true := by simp; omega
  clear hT hE hv hn
  go_enter Tryd.func33, Tryd.ntmps33
  go_wp2_with fail
  refine (sigCheck_any P Q G _ [r, y] _ hP hQ (HT.out.up (((Up.refl w).alloc _).alloc _)) (ints_two (by go_simp) (by go_simp))).mono ?_
  rintro e w1 ⟨rfl, hU1⟩
  rw [HE.out]
  go_wp2
  go_ret2
  exact ⟨rfl, (((Up.refl w).alloc _).alloc _).trans hU1⟩

/-- The first error of a challenge's arguments. -/
def sigE (P Q G r y : Int) (n : Nat) : Int := if chkI P Q G [r, y] = 0 then (if n ≤ 16384 then 0 else 5) else chkI P Q G [r, y]
theorem sigChallenge_any (P Q G r y : Int) (v : Value) (m : List Int) (w : World) (hP : -9223372036854775808 ≤ P) (hQ : Q ≤ 9223372036854775807) (hT : Tab w) (hS : TabS w) (hv : SeqAt .u8 w v m) (hm : ∀ x ∈ m, 0 ≤ x ∧ x ≤ 255) :
    Calls Tryd.prog 33 #[grp P Q G, .int .i64 r, .int .i64 y, v] w fun e w' => e = .returned (.tuple #[.int .i64 (orZ (sigE P Q G r y m.length) (sigC P Q G r y m)), .int .i64 (sigE P Q G r y m.length)]) ∧ Up w w' := by
  by_cases h : chkI P Q G [r, y] = 0
  · obtain ⟨hg, hx⟩ := chk_cases h
    by_cases hl : m.length ≤ 16384
    · rw [show sigE P Q G r y m.length = 0 by rw [sigE, if_pos h, if_pos hl]]
      exact sigChallenge_ok P Q G r y v m w hT hS hg (hx r (by simp)) (hx y (by simp)) hv hl hm
    · rw [show sigE P Q G r y m.length = 5 by rw [sigE, if_pos h, if_neg hl]]
      exact sigChallenge_long P Q G r y v m w hP hQ hT h hv (by omega)
  · rw [show sigE P Q G r y m.length = chkI P Q G [r, y] by rw [sigE, if_neg h]]
    rw [show orZ (chkI P Q G [r, y]) (sigC P Q G r y m) = 0 by rw [orZ, if_neg h]]
    exact sigChallenge_bad P Q G r y _ v w hP hQ hT rfl (by simp [h])

/-- The commitment that fits. -/
def frgV (P Q G y c s : Int) : Int := pwi P G s * gpw P Q y (-c) % P
def frgE (P Q G y c s : Int) : Int := errE (gvB P Q G) (elB P Q y && (exB Q c && exB Q s))
theorem frgV_el {P Q G y c s : Int} (hg : gvB P Q G = true) (hy : elB P Q y = true) : elB P Q (frgV P Q G y c s) = true := by
  have g := gv_iff.1 hg
  have g2 := g.P4
  have g3 := g.Q3
  exact el_mul (by omega) (by omega) (el_pw (by omega) (by omega) (sgen_el hg) _) (gpw_el (by omega) (by omega) hy _)

theorem sigForge_any (P Q G y c s : Int) (w : World) (hP : -9223372036854775808 ≤ P) (hQ : Q ≤ 9223372036854775807) (hT : Tab w) :
    Calls Tryd.prog 32 #[grp P Q G, .int .i64 y, .int .i64 c, .int .i64 s] w fun e w' => e = .returned (.tuple #[.int .i64 (orZ (frgE P Q G y c s) (frgV P Q G y c s)), .int .i64 (frgE P Q G y c s)]) ∧ Up w w' := by
  have M1 := hid (fun w' (v' : Value) (hU : Up w w') (hv' : IntsAt w' v' [y]) => sigCheck_any P Q G v' [y] w' hP hQ (hT.up hU) hv')
  have M2 := hid (fun w' => sigScalar_any P Q G c w')
  have M3 := hid (fun w' => sigScalar_any P Q G s w')
  have M4 := hid (fun w' (hU : Up w w') (hg : gvB P Q G = true) (hx : exB Q s = true) => gpw_sc (P := P) (a := G) (exB_iff.1 hx).1 (exB_iff.1 hx).2 ▸ gPower_ok P Q G G s w' hQ (hT.up hU) hg (sgen_el hg) (by have := (exB_iff.1 hx).1; omega) (by have := (exB_iff.1 hx).2; omega))
  have M5 := hid (fun w' (hU : Up w w') (hg : gvB P Q G = true) (hy : elB P Q y = true) (hx : exB Q c = true) => gPower_ok P Q G y (-c) w' hQ (hT.up hU) hg hy (by have := (exB_iff.1 hx).2; omega) (by have := (exB_iff.1 hx).1; omega))
  have M6 := hid (fun w' (hU : Up w w') (hg : gvB P Q G = true) (hy : elB P Q y = true) => gMul_ok P Q G (pwi P G s) (gpw P Q y (-c)) w' hQ (hT.up hU) hg (by have g := gv_iff.1 hg; have g2 := g.P4; have g3 := g.Q3; exact el_pw (by omega) (by omega) (sgen_el hg) _) (by have g := gv_iff.1 hg; have g2 := g.P4; have g3 := g.Q3; exact gpw_el (by omega) (by omega) hy _))
  have HW : Hid (exB Q c = true → IntKind.i64.wrap (-c) = -c) := hid (fun h => by have h1 := exB_iff.1 h; rw [IntKind.wrap_i64]; omega)
  rw [show chkI P Q G [y] = errE (gvB P Q G) (elB P Q y) by unfold chkI errE; simp] at M1
  unfold frgE frgV
  generalize pwi P G s = V1 at *
  generalize gpw P Q y (-c) = V2 at *
  generalize V1 * V2 % P = V at *
  generalize gvB P Q G = b1 at *
  generalize elB P Q y = b2 at *
  generalize exB Q c = b3 at *
  generalize exB Q s = b4 at *
  clear hT
  obtain ⟨o, ho⟩ : ∃ o, w.heap.size = o := ⟨_, rfl⟩
  have HO := hid ho
  clear ho
  go_enter Tryd.func32, Tryd.ntmps32
  go_wp2_with fail
  refine (M1.out _ _ (((Up.refl w).alloc _).alloc _) (ints_one (by go_simp))).mono ?_
  rintro e w1 ⟨rfl, hU1⟩
  have HA1 := hid ((((nums_three (w := w) (t := 23) HO.out).up ((Up.refl _).alloc _)).up hU1))
  have HU1 := hid ((((Up.refl w).alloc _).alloc _).trans hU1)
  rw [HO.out]
  clear hU1
  obtain ⟨c0, c1, c2⟩ := HA1.out
  cases b1
  · go_wp2
    go_ret2
    exact ⟨rfl, HU1.out⟩
  cases b2
  · go_wp2
    go_ret2
    exact ⟨rfl, HU1.out⟩
  go_wp2_with fail
  refine (M2.out _).mono ?_
  rintro e w2 ⟨rfl, hU2⟩
  have HA2 := hid (HA1.out.up hU2)
  have HU2 := hid (HU1.out.trans hU2)
  clear hU2 HA1 HU1 c0 c1 c2
  obtain ⟨c0, c1, c2⟩ := HA2.out
  cases b3
  · go_wp2
    go_ret2
    exact ⟨rfl, HU2.out⟩
  have hw := HW.out rfl
  go_wp2_with fail
  refine (M3.out _).mono ?_
  rintro e w3 ⟨rfl, hU3⟩
  have HA3 := hid (HA2.out.up hU3)
  have HU3 := hid (HU2.out.trans hU3)
  clear hU3 HA2 HU2 c0 c1 c2
  obtain ⟨c0, c1, c2⟩ := HA3.out
  cases b4
  · go_wp2
    go_ret2
    exact ⟨rfl, HU3.out⟩
  go_wp2_with fail
  refine (M4.out _ HU3.out (by trivial) (by trivial)).mono ?_
  rintro e w4 ⟨rfl, hU4⟩
  have HA4 := hid (HA3.out.up hU4)
  have HU4 := hid (HU3.out.trans hU4)
  clear hU4 HA3 HU3 c0 c1 c2
  obtain ⟨c0, c1, c2⟩ := HA4.out
  go_wp2_with fail
  try rw [hw]
  refine (M5.out _ HU4.out (by trivial) (by trivial) (by trivial)).mono ?_
  rintro e w5 ⟨rfl, hU5⟩
  have HA5 := hid (HA4.out.up hU5)
  have HU5 := hid (HU4.out.trans hU5)
  clear hU5 HA4 HU4 c0 c1 c2
  obtain ⟨c0, c1, c2⟩ := HA5.out
  go_wp2_with fail
  refine (M6.out _ HU5.out (by trivial) (by trivial)).mono ?_
  rintro e w6 ⟨rfl, hU6⟩
  have HU6 := hid (HU5.out.trans hU6)
  clear hU6 HA5 HU5 c0 c1 c2
  go_wp2
  go_ret2
  exact ⟨rfl, HU6.out⟩
end Go.Proofs.YtkimojconidhlaaDoor
