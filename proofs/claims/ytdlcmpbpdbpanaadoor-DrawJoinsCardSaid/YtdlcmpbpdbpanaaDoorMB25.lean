/- Package signature: Verify. The examples of layer 22. What an honest signer's answer fits. The statements of layer 10 on products and powers: walks. -/
import Derived.Test.YtdlcmpbpdbpanaaDoorMB24
import Derived.Test.YtdlcmpbpdbpanaaDoorMB15
import Derived.Test.YtdlcmpbpdbpanaaDoorMB11
import Derived.Test.YtdlcmpbpdbpanaaDoorMB10
namespace Go.Proofs.YtdlcmpbpdbpanaaDoor
open Go.RowKit Go.Sp
set_option maxHeartbeats 4000000
set_option maxRecDepth 20000

def SigAt (w : World) (b : Nat) (x y : Int) : Prop := w.cell? ⟨b, 0, none⟩ = some (.int .i64 x) ∧ w.cell? ⟨b, 1, none⟩ = some (.int .i64 y)
theorem SigAt.up {w w' : World} {b : Nat} {x y : Int} (h : SigAt w b x y) (hU : Up w w') : SigAt w' b x y :=
  have hl := cell_lt h.1
  ⟨by rw [hU.cell hl]; exact h.1, by rw [hU.cell hl]; exact h.2⟩
theorem nums_two {w : World} {r : Nat} {x y : Int} {t : TypeId} (hr : w.heap.size = r) : SigAt (w.alloc (.cells #[.int .i64 x, .int .i64 y] t)) r x y := by
  have hb := alloc_at w (.cells #[.int .i64 x, .int .i64 y] t) r hr.symm
  exact ⟨by simp [World.cell?, hb], by simp [World.cell?, hb]⟩

def verS (P Q G y : Int) (m : List Int) (c s : Int) : Bool := decide (frgE P Q G y c s = 0) && (decide (m.length ≤ 16384) && decide (sigC P Q G (frgV P Q G y c s) y m = c))
theorem frgE_ok {P Q G y c s : Int} (h : frgE P Q G y c s = 0) : gvB P Q G = true ∧ elB P Q y = true ∧ exB Q c = true ∧ exB Q s = true := by
  unfold frgE errE at h
  by_cases h1 : gvB P Q G = true
  · rw [if_pos h1] at h
    by_cases h2 : (elB P Q y && (exB Q c && exB Q s)) = true
    · simp at h2
      exact ⟨h1, h2.1, h2.2.1, h2.2.2⟩
    · rw [if_neg h2] at h; cases h
  · rw [if_neg h1] at h; cases h
theorem frgE_sig {P Q G y c s : Int} {n : Nat} (h : frgE P Q G y c s = 0) : sigE P Q G (frgV P Q G y c s) y n = if n ≤ 16384 then 0 else 5 := by
  obtain ⟨h1, h2, _, _⟩ := frgE_ok h
  unfold sigE
  rw [if_pos (chkI_ok h1 (by simp [frgV_el h1 h2, h2]))]

theorem sigVerify_any (P Q G y c s : Int) (v : Value) (m : List Int) (w : World) (hP : -9223372036854775808 ≤ P) (hQ : Q ≤ 9223372036854775807) (hT : Tab w) (hS : TabS w) (hv : SeqAt .u8 w v m) (hm : ∀ x ∈ m, 0 ≤ x ∧ x ≤ 255) :
    Calls Tryd.prog 33 #[grp P Q G, .int .i64 y, v, .agg #[.int .i64 c, .int .i64 s]] w fun e w' => e = .returned (.bool (verS P Q G y m c s)) ∧ Up w w' := by
  have M1 := hid (fun w' (hU : Up w w') => sigForge_any P Q G y c s w' hP hQ (hT.up hU))
  have M2 := hid (fun w' (hU : Up w w') (r : Int) => sigChallenge_any P Q G r y v m w' hP hQ (hT.up hU) (hS.up hU) (hv.up hU) hm)
  have HE := hid (fun h : frgE P Q G y c s = 0 => frgE_sig (n := m.length) h)
  have HB : Hid (verS P Q G y m c s = (decide (frgE P Q G y c s = 0) && (decide (m.length ≤ 16384) && decide (sigC P Q G (frgV P Q G y c s) y m = c)))) := hid rfl
  generalize verS P Q G y m c s = T at *
  generalize frgV P Q G y c s = V at *
  generalize frgE P Q G y c s = E at *
  replace M2 := hid (fun w' hU => M2.out w' hU V)
  obtain ⟨va, vc, rfl, _, _⟩ := hv.shape
  clear hT hS hv hm
  obtain ⟨o, ho⟩ : ∃ o, w.heap.size = o := ⟨_, rfl⟩
  have HO := hid ho
  clear ho
  go_enter Tryd.func33, Tryd.ntmps33
  go_wp2_with fail
  refine (M1.out _ (((Up.refl w).alloc _).alloc _)).mono ?_
  rintro e w1 ⟨rfl, hU1⟩
  have HA1 := hid ((((nums_three (w := w) (t := 52) HO.out).up ((Up.refl _).alloc _)).up hU1))
  have HS1 := hid ((nums_two (r := o + 1) (t := 64) (x := c) (y := s) (by have := HO.out; simp; omega)).up hU1)
  have HU1 := hid ((((Up.refl w).alloc _).alloc _).trans hU1)
  rw [HO.out]
  clear hU1
  obtain ⟨c0, c1, c2⟩ := HA1.out
  obtain ⟨d0, d1⟩ := HS1.out
  by_cases hE : E = 0
  case neg =>
    have hE' : (E != 0) = true := by simpa using hE
    have hX : T = false := by rw [HB.out, show decide (E = 0) = false by simpa using hE]; rfl
    subst hX
    clear hE
    go_wp2
    go_ret
    exact ⟨rfl, HU1.out⟩
  subst hE
  have hE2 := HE.out rfl
  rw [hE2] at M2
  have HB2 : Hid (T = (decide (m.length ≤ 16384) && decide (sigC P Q G V y m = c))) := hid (by rw [HB.out]; rfl)
  clear HB HE hE2
  generalize sigC P Q G V y m = D at *
  rw [show orZ 0 V = V from rfl]
  go_wp2_with fail
  refine (M2.out _ HU1.out).mono ?_
  rintro e w2 ⟨rfl, hU2⟩
  have HS2 := hid (HS1.out.up hU2)
  have HU2 := hid (HU1.out.trans hU2)
  clear hU2 HS1 HU1 HA1 c0 c1 c2 d0 d1
  obtain ⟨d0, d1⟩ := HS2.out
  by_cases hl : m.length ≤ 16384
  case neg =>
    have hX : T = false := by rw [HB2.out, show decide (m.length ≤ 16384) = false by simpa using hl]; rfl
    subst hX
    rw [if_neg hl]
    clear hl
    go_wp2
    go_ret
    exact ⟨rfl, HU2.out⟩
  have hX : T = decide (D = c) := by rw [HB2.out, show decide (m.length ≤ 16384) = true by simpa using hl]; rfl
  subst hX
  rw [if_pos hl, show orZ 0 D = D from rfl]
  clear hl HB2
  go_wp2
  go_ret
  refine ⟨?_, HU2.out⟩
  exact congrArg (fun b => Ending.returned (.bool b)) (by rw [Bool.eq_iff_iff]; simp)
end Go.Proofs.YtdlcmpbpdbpanaaDoor
namespace Go.Proofs.YtdlcmpbpdbpanaaDoor
open Go.RowKit Go.Sp
set_option maxHeartbeats 4000000
set_option maxRecDepth 20000

theorem small22 (w : World) : Calls Tryd.prog 86 #[] w fun e w' => e = .returned (grp 23 11 4) ∧ Up w w' := by
  go_enter Tryd.func86, Tryd.ntmps86
  go_wp2
  go_returns
  exact ⟨rfl, ((Up.refl w).alloc _)⟩

theorem awake22 (w : World) (hT : Tab w) : Calls Tryd.prog 32 #[] w fun e w' => e = .returned (.bool true) ∧ Up w w' := by
  have M1 := hid (fun w' (hU : Up w w') => sigKey_any 23 11 4 3 w' (by omega) (by omega) (hT.up hU))
  rw [show errE (gvB 23 11 4) (exB 11 3) = 0 by decide +kernel, show pwi 23 4 3 = 18 by decide +kernel, show orZ 0 18 = 18 from rfl] at M1
  have M2 := hid (fun w' (hU : Up w w') => sigForge_any 23 11 4 18 2 0 w' (by omega) (by omega) (hT.up hU))
  rw [show frgE 23 11 4 18 2 0 = 0 by decide +kernel, show frgV 23 11 4 18 2 0 = 12 by decide +kernel, show orZ 0 12 = 12 from rfl] at M2
  clear hT
  go_enter Tryd.func32, Tryd.ntmps32
  go_wp2_with fail
  refine (small22 _).mono ?_
  rintro e w1 ⟨rfl, hU1⟩
  have HU1 := hid ((Up.refl w).trans hU1)
  clear hU1
  go_wp2_with fail
  refine (M1.out _ (HU1.out)).mono ?_
  rintro e w2 ⟨rfl, hU2⟩
  have HU2 := hid (HU1.out.trans hU2)
  clear hU2 HU1
  go_wp2_with fail
  refine (small22 _).mono ?_
  rintro e w3 ⟨rfl, hU3⟩
  have HU3 := hid (HU2.out.trans hU3)
  clear hU3 HU2
  go_wp2_with fail
  refine (M2.out _ (HU3.out)).mono ?_
  rintro e w4 ⟨rfl, hU4⟩
  have HU4 := hid (HU3.out.trans hU4)
  clear hU4 HU3
  go_wp2
  go_ret
  exact ⟨rfl, HU4.out⟩
end Go.Proofs.YtdlcmpbpdbpanaaDoor
namespace Go.Proofs.YtdlcmpbpdbpanaaDoor
open Go.RowKit Go.Sp

theorem frgV_pow {P Q G y c s : Int} (h0 : 0 ≤ s) (h1 : s < Q) : frgV P Q G y c s = gpw P Q G s * gpw P Q y (-c) % P := by rw [frgV, gpw_sc h0 h1]
theorem honest_fits {P Q G x k c : Int} (hg : gvB P Q G = true) (hx : exB Q x = true) (hk : exB Q k = true) : frgV P Q G (pwi P G x) c ((k + c * x % Q) % Q) = pwi P G k := by
  have g := gv_iff.1 hg
  have g2 := g.P4
  have g3 := g.Q3
  obtain ⟨x0, x1⟩ := exB_iff.1 hx
  obtain ⟨k0, k1⟩ := exB_iff.1 hk
  have hG := sgen_el hg
  rw [frgV_pow (Int.emod_nonneg _ (by omega)) (Int.emod_lt_of_pos _ (by omega)), ← gpw_sc (Q := Q) x0 x1, ← gpw_sc (Q := Q) k0 k1, gpw_mul (by omega) (by omega) hG, gpw_add (by omega) (by omega) hG]
  refine gpw_base_mod ?_
  rw [Int.add_emod, Int.emod_emod, ← Int.add_emod, Int.add_assoc, Int.add_emod, Int.add_emod (c * x % Q), Int.emod_emod, ← Int.add_emod (c * x), ← Int.add_emod]
  congr 1
  rw [Int.mul_neg, Int.mul_comm x c]
  omega
theorem eml (a b m : Int) : a % m * b % m = a * b % m := by rw [Int.mul_emod, Int.emod_emod, ← Int.mul_emod]
theorem emr (a b m : Int) : a * (b % m) % m = a * b % m := by rw [Int.mul_emod, Int.emod_emod, ← Int.mul_emod]
theorem undo {P Q y c : Int} (hP : 2 ≤ P) (hQ : 1 ≤ Q) (hy : elB P Q y = true) : gpw P Q y c * gpw P Q y (-c) % P = 1 := by
  rw [gpw_add hP hQ hy, show c + -c = 0 by omega]; exact gpw_zero hP
theorem fits_back {P Q G y c s : Int} (hg : gvB P Q G = true) (hy : elB P Q y = true) (h0 : 0 ≤ s) (h1 : s < Q) : frgV P Q G y c s * gpw P Q y c % P = gpw P Q G s := by
  have g := gv_iff.1 hg
  have g2 := g.P4
  have g3 := g.Q3
  have u := undo (c := c) (show 2 ≤ P by omega) (show 1 ≤ Q by omega) hy
  obtain ⟨r0, r1⟩ := gpw_nonneg (P := P) (Q := Q) (a := G) (m := s) (by omega)
  rw [frgV, ← gpw_sc (Q := Q) h0 h1, eml, Int.mul_assoc, Int.mul_comm (gpw P Q y (-c)), ← emr, u, Int.mul_one]
  exact Int.emod_eq_of_lt r0 r1
theorem one_fit {P Q G y c s x : Int} (hg : gvB P Q G = true) (hy : elB P Q y = true) (h0 : 0 ≤ s) (h1 : s < Q) (hx : elB P Q x = true) : x * gpw P Q y c % P = gpw P Q G s ↔ x = frgV P Q G y c s := by
  have g := gv_iff.1 hg
  have g2 := g.P4
  have g3 := g.Q3
  obtain ⟨x0, x1, _⟩ := el_iff.1 hx
  constructor
  · intro h
    have u := undo (c := c) (show 2 ≤ P by omega) (show 1 ≤ Q by omega) hy
    rw [frgV, ← gpw_sc (Q := Q) h0 h1, ← h, eml, Int.mul_assoc, ← emr, u, Int.mul_one]
    exact (Int.emod_eq_of_lt (by omega) x1).symm
  · intro h
    rw [h]
    exact fits_back hg hy h0 h1
end Go.Proofs.YtdlcmpbpdbpanaaDoor
namespace Go.Proofs.YtdlcmpbpdbpanaaDoor
open Go.RowKit Go.Sp
set_option maxHeartbeats 1000000

end Go.Proofs.YtdlcmpbpdbpanaaDoor
