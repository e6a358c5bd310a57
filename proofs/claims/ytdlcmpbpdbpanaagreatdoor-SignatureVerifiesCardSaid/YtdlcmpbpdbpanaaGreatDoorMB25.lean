/- Package signature: Verify. What an honest signer's answer fits. Package blind: scalars, elements, sums, the commitment, offers, answers. Package blind: right, Check, given, Factors. -/
import Derived.Test.YtdlcmpbpdbpanaaGreatDoorMB24
namespace Go.Proofs.YtdlcmpbpdbpanaaGreatDoor
open Go.RowKit Go.Sp
set_option maxHeartbeats 4000000
set_option maxRecDepth 20000

def SigAt (w : World) (b : Nat) (x y : Int) : Prop := w.cell? ⟨b, 0, none⟩ = some (.int .i64 x) ∧ w.cell? ⟨b, 1, none⟩ = some (.int .i64 y)
theorem SigAt.up {w w' : World} {b : Nat} {x y : Int} (h : SigAt w b x y) (hU : Up w w') : SigAt w' b x y :=
  have hl := cell_lt h.1
  ⟨by rw [hU.cell hl]; exact h.1, by rw [hU.cell hl]; exact h.2⟩
theorem nums_two {w : World} {r : Nat} {x y : Int} {t : TypeId} (hr : w.heap.size = r) : SigAt (w.alloc (.cells #[.int .i64 x, .int .i64 y] t)) r x y := by
  have hb := alloc_at w (.cells #[.int .i64 x, .int .i64 y] t) r hr.symm
  exact ⟨by simp [World.cell?, hb], by simp [World.cell?, hb]⟩

def verS (P Q G y : Int) (m : List Int) (c s : Int) : Bool := decide (frgE P Q G y c s = 0) && (decide (m.length ≤ 16384) && decide (sigC P Q G (frgV P Q G y c s) y m = c))
theorem frgE_ok {P Q G y c s : Int} (h : frgE P Q G y c s = 0) : gvB P Q G = true ∧ elB P Q y = true ∧ exB Q c = true ∧ exB Q s = true := by
  unfold frgE errE at h
  by_cases h1 : gvB P Q G = true
  · rw [if_pos h1] at h
    by_cases h2 : (elB P Q y && (exB Q c && exB Q s)) = true
    · simp at h2
      exact ⟨h1, h2.1, h2.2.1, h2.2.2⟩
    · rw [if_neg h2] at h; cases h
  · rw [if_neg h1] at h; cases h
theorem frgE_sig {P Q G y c s : Int} {n : Nat} (h : frgE P Q G y c s = 0) : sigE P Q G (frgV P Q G y c s) y n = if n ≤ 16384 then 0 else 5 := by
  obtain ⟨h1, h2, _, _⟩ := frgE_ok h
  unfold sigE
  rw [if_pos (chkI_ok h1 (by simp [frgV_el h1 h2, h2]))]

theorem sigVerify_any (P Q G y c s : Int) (v : Value) (m : List Int) (w : World) (hP : -9223372036854775808 ≤ P) (hQ : Q ≤ 9223372036854775807) (hT : Tab w) (hS : TabS w) (hv : SeqAt .u8 w v m) (hm : ∀ x ∈ m, 0 ≤ x ∧ x ≤ 255) :
    Calls Tryz.prog 40 #[grp P Q G, .int .i64 y, v, .agg #[.int .i64 c, .int .i64 s]] w fun e w' => e = .returned (.bool (verS P Q G y m c s)) ∧ Up w w' := by
  have M1 := hid (fun w' (hU : Up w w') => sigForge_any P Q G y c s w' hP hQ (hT.up hU))
  have M2 := hid (fun w' (hU : Up w w') (r : Int) => sigChallenge_any P Q G r y v m w' hP hQ (hT.up hU) (hS.up hU) (hv.up hU) hm)
  have HE := hid (fun h : frgE P Q G y c s = 0 => frgE_sig (n := m.length) h)
  have HB : Hid (verS P Q G y m c s = (decide (frgE P Q G y c s = 0) && (decide (m.length ≤ 16384) && decide (sigC P Q G (frgV P Q G y c s) y m = c)))) := hid rfl
  generalize verS P Q G y m c s = T at *
  generalize frgV P Q G y c s = V at *
  generalize frgE P Q G y c s = E at *
  replace M2 := hid (fun w' hU => M2.out w' hU V)
  obtain ⟨va, vc, rfl, _, _⟩ := hv.shape
  clear hT hS hv hm
  obtain ⟨o, ho⟩ : ∃ o, w.heap.size = o := ⟨_, rfl⟩
  have HO := hid ho
  clear ho
  go_enter Tryz.func40, Tryz.ntmps40
  go_wp2_with fail
  refine (M1.out _ (((Up.refl w).alloc _).alloc _)).mono ?_
  rintro e w1 ⟨rfl, hU1⟩
  have HA1 := hid ((((nums_three (w := w) (t := 23) HO.out).up ((Up.refl _).alloc _)).up hU1))
  have HS1 := hid ((nums_two (r := o + 1) (t := 67) (x := c) (y := s) (by have := HO.out; simp; omega)).up hU1)
  have HU1 := hid ((((Up.refl w).alloc _).alloc _).trans hU1)
  rw [HO.out]
  clear hU1
  obtain ⟨c0, c1, c2⟩ := HA1.out
  obtain ⟨d0, d1⟩ := HS1.out
  by_cases hE : E = 0
  case neg =>
    have hE' : (E != 0) = true := by simpa using hE
    have hX : T = false := by rw [HB.out, show decide (E = 0) = false by simpa using hE]; rfl
    subst hX
    clear hE
    go_wp2
    go_ret
    exact ⟨rfl, HU1.out⟩
  subst hE
  have hE2 := HE.out rfl
  rw [hE2] at M2
  have HB2 : Hid (T = (decide (m.length ≤ 16384) && decide (sigC P Q G V y m = c))) := hid (by rw [HB.out]; rfl)
  clear HB HE hE2
  generalize sigC P Q G V y m = D at *
  rw [show orZ 0 V = V from rfl]
  go_wp2_with fail
  refine (M2.out _ HU1.out).mono ?_
  rintro e w2 ⟨rfl, hU2⟩
  have HS2 := hid (HS1.out.up hU2)
  have HU2 := hid (HU1.out.trans hU2)
  clear hU2 HS1 HU1 HA1 c0 c1 c2 d0 d1
  obtain ⟨d0, d1⟩ := HS2.out
  by_cases hl : m.length ≤ 16384
  case neg =>
    have hX : T = false := by rw [HB2.out, show decide (m.length ≤ 16384) = false by simpa using hl]; rfl
    subst hX
    rw [if_neg hl]
    clear hl
    go_wp2
    go_ret
    exact ⟨rfl, HU2.out⟩
  have hX : T = decide (D = c) := by rw [HB2.out, show decide (m.length ≤ 16384) = true by simpa using hl]; rfl
  subst hX
  rw [if_pos hl, show orZ 0 D = D from rfl]
  clear hl HB2
  go_wp2
  go_ret
  refine ⟨?_, HU2.out⟩
  exact congrArg (fun b => Ending.returned (.bool b)) (by rw [Bool.eq_iff_iff]; simp)
end Go.Proofs.YtdlcmpbpdbpanaaGreatDoor
namespace Go.Proofs.YtdlcmpbpdbpanaaGreatDoor
open Go.RowKit Go.Sp

theorem frgV_pow {P Q G y c s : Int} (h0 : 0 ≤ s) (h1 : s < Q) : frgV P Q G y c s = gpw P Q G s * gpw P Q y (-c) % P := by rw [frgV, gpw_sc h0 h1]
theorem honest_fits {P Q G x k c : Int} (hg : gvB P Q G = true) (hx : exB Q x = true) (hk : exB Q k = true) : frgV P Q G (pwi P G x) c ((k + c * x % Q) % Q) = pwi P G k := by
  have g := gv_iff.1 hg
  have g2 := g.P4
  have g3 := g.Q3
  obtain ⟨x0, x1⟩ := exB_iff.1 hx
  obtain ⟨k0, k1⟩ := exB_iff.1 hk
  have hG := sgen_el hg
  rw [frgV_pow (Int.emod_nonneg _ (by omega)) (Int.emod_lt_of_pos _ (by omega)), ← gpw_sc (Q := Q) x0 x1, ← gpw_sc (Q := Q) k0 k1, gpw_mul (by omega) (by omega) hG, gpw_add (by omega) (by omega) hG]
  refine gpw_base_mod ?_
  rw [Int.add_emod, Int.emod_emod, ← Int.add_emod, Int.add_assoc, Int.add_emod, Int.add_emod (c * x % Q), Int.emod_emod, ← Int.add_emod (c * x), ← Int.add_emod]
  congr 1
  rw [Int.mul_neg, Int.mul_comm x c]
  omega
theorem eml (a b m : Int) : a % m * b % m = a * b % m := by rw [Int.mul_emod, Int.emod_emod, ← Int.mul_emod]
theorem emr (a b m : Int) : a * (b % m) % m = a * b % m := by rw [Int.mul_emod, Int.emod_emod, ← Int.mul_emod]
theorem undo {P Q y c : Int} (hP : 2 ≤ P) (hQ : 1 ≤ Q) (hy : elB P Q y = true) : gpw P Q y c * gpw P Q y (-c) % P = 1 := by
  rw [gpw_add hP hQ hy, show c + -c = 0 by omega]; exact gpw_zero hP
theorem fits_back {P Q G y c s : Int} (hg : gvB P Q G = true) (hy : elB P Q y = true) (h0 : 0 ≤ s) (h1 : s < Q) : frgV P Q G y c s * gpw P Q y c % P = gpw P Q G s := by
  have g := gv_iff.1 hg
  have g2 := g.P4
  have g3 := g.Q3
  have u := undo (c := c) (show 2 ≤ P by omega) (show 1 ≤ Q by omega) hy
  obtain ⟨r0, r1⟩ := gpw_nonneg (P := P) (Q := Q) (a := G) (m := s) (by omega)
  rw [frgV, ← gpw_sc (Q := Q) h0 h1, eml, Int.mul_assoc, Int.mul_comm (gpw P Q y (-c)), ← emr, u, Int.mul_one]
  exact Int.emod_eq_of_lt r0 r1
theorem one_fit {P Q G y c s x : Int} (hg : gvB P Q G = true) (hy : elB P Q y = true) (h0 : 0 ≤ s) (h1 : s < Q) (hx : elB P Q x = true) : x * gpw P Q y c % P = gpw P Q G s ↔ x = frgV P Q G y c s := by
  have g := gv_iff.1 hg
  have g2 := g.P4
  have g3 := g.Q3
  obtain ⟨x0, x1, _⟩ := el_iff.1 hx
  constructor
  · intro h
    have u := undo (c := c) (show 2 ≤ P by omega) (show 1 ≤ Q by omega) hy
    rw [frgV, ← gpw_sc (Q := Q) h0 h1, ← h, eml, Int.mul_assoc, ← emr, u, Int.mul_one]
    exact (Int.emod_eq_of_lt (by omega) x1).symm
  · intro h
    rw [h]
    exact fits_back hg hy h0 h1
end Go.Proofs.YtdlcmpbpdbpanaaGreatDoor
namespace Go.Proofs.YtdlcmpbpdbpanaaGreatDoor
open Go.RowKit Go.Sp
set_option maxHeartbeats 4000000
set_option maxRecDepth 20000

theorem bliScalars_any (P Q G : Int) (v : Value) (xs : List Int) (w : World) (hv : IntsAt w v xs) :
    Calls Tryz.prog 118 #[grp P Q G, v] w fun e w' => e = .returned (.bool (xs.all (exB Q))) ∧ Up w w' := by
  obtain ⟨l1, a1, cp1, rfl, hc1⟩ := hv
  have HC1 := hid hc1
  obtain ⟨X, hX⟩ : ∃ X, xs.all (exB Q) = X := ⟨_, rfl⟩
  have HX := hid hX
  obtain ⟨n, hn⟩ : ∃ n, xs.length = n := ⟨_, rfl⟩
  have HN := hid hn
  rw [hX]
  rw [hn] at l1
  rw [hn]
  have HBd : Hid (∀ i, i < n → (exB Q) (xs.getD i 0) = false → X = false) := hid (fun i hi h => by rw [← HX.out]; exact not_all (by rw [HN.out]; exact hi) h)
  clear hc1 hX hn
  go_enter Tryz.func118, Tryz.ntmps118
  go_wp2_with fail
  obtain ⟨o, ho⟩ : ∃ o, w.heap.size = o := ⟨_, rfl⟩
  have HG0 := hid (nums_three (w := w) (x := P) (y := Q) (z := G) (t := 23) ho)
  have HU0 := hid ((Up.refl w).alloc (.cells #[.int .i64 P, .int .i64 Q, .int .i64 G] 23))
  try rw [ho]
  clear ho
  go_loopw [9] (fun vi wr => ∃ i : Nat, i ≤ n ∧ vi = .int .i64 i ∧ Hid (∀ j, j < i → (exB Q) (xs.getD j 0) = true) ∧ Hid (Up w wr) ∧ Hid (GrpAt wr o P Q G)) (fun vi _ => n - (intOf vi).toNat)
  case atStart => exact ⟨0, by omega, rfl, hid (fun j hj => by omega), HU0, HG0⟩
  case round =>
    obtain ⟨i, hi, rfl, HG, HU, HGr⟩ := hrel
    obtain ⟨c0, c1, c2⟩ := HGr.out
    by_cases hl : i < n
    · have hl1 : i < xs.length := by rw [HN.out]; exact hl
      obtain ⟨b1, o1, rfl, k1⟩ := ints_cell HC1.out HU.out hl1
      have HBi := hid (HBd.out i hl)
      have HS : Hid ((exB Q) (xs.getD i 0) = true → ∀ j, j < i + 1 → (exB Q) (xs.getD j 0) = true) := hid (fun h j hj => by
        rcases Nat.lt_or_ge j i with h3 | h3
        · exact HG.out j h3
        · obtain rfl : j = i := by omega
          exact h)
      clear hl1 HG
      generalize xs.getD i 0 = x at *
      by_cases c1 : x < 0
      · have d1 : decide (x < 0) = true := by simpa using c1
        obtain rfl := HBi.out (by simp [exB]; omega)
        clear c1
        go_wp2
        go_ret
        exact ⟨rfl, HU.out⟩
      have d1 : decide (x < 0) = false := by simpa using c1
      by_cases c2 : x ≥ Q
      · have d2 : decide (x ≥ Q) = true := by simpa using c2
        obtain rfl := HBi.out (by simp [exB]; omega)
        clear c1 c2
        go_wp2
        go_ret
        exact ⟨rfl, HU.out⟩
      have d2 : decide (x ≥ Q) = false := by simpa using c2
      have Hx : Hid (exB Q x = true) := hid (exB_iff.2 ⟨by omega, by omega⟩)
      clear c1 c2
      go_wp2_with fail
      go_roundw
      case rel => exact ⟨i + 1, by omega, by go_num, hid (HS.out Hx.out), HU, HGr⟩
      case measure => simp [intOf]; omega
    · obtain rfl : i = n := by omega
      have hX : X = true := by rw [← HX.out]; exact all_of (by rw [HN.out]; exact HG.out)
      subst hX
      go_wp2
      go_ret
      exact ⟨rfl, HU.out⟩

theorem bliElements_any (P Q G : Int) (v : Value) (xs : List Int) (w : World) (hP : -9223372036854775808 ≤ P) (hQ : Q ≤ 9223372036854775807) (hT : Tab w) (hv : IntsAt w v xs) :
    Calls Tryz.prog 121 #[grp P Q G, v] w fun e w' => e = .returned (.bool (xs.all (conB P Q G))) ∧ Up w w' := by
  have M1 := hid (fun (x : Int) (w' : World) (hU : Up w w') => Contains_any P Q G x w' hP hQ (hT.up hU))
  clear hT
  obtain ⟨l1, a1, cp1, rfl, hc1⟩ := hv
  have HC1 := hid hc1
  obtain ⟨X, hX⟩ : ∃ X, xs.all (conB P Q G) = X := ⟨_, rfl⟩
  have HX := hid hX
  obtain ⟨n, hn⟩ : ∃ n, xs.length = n := ⟨_, rfl⟩
  have HN := hid hn
  rw [hX]
  rw [hn] at l1
  rw [hn]
  have HBd : Hid (∀ i, i < n → (conB P Q G) (xs.getD i 0) = false → X = false) := hid (fun i hi h => by rw [← HX.out]; exact not_all (by rw [HN.out]; exact hi) h)
  clear hc1 hX hn
  go_enter Tryz.func121, Tryz.ntmps121
  go_wp2_with fail
  obtain ⟨o, ho⟩ : ∃ o, w.heap.size = o := ⟨_, rfl⟩
  have HG0 := hid (nums_three (w := w) (x := P) (y := Q) (z := G) (t := 23) ho)
  have HU0 := hid ((Up.refl w).alloc (.cells #[.int .i64 P, .int .i64 Q, .int .i64 G] 23))
  try rw [ho]
  clear ho
  go_loopw [9] (fun vi wr => ∃ i : Nat, i ≤ n ∧ vi = .int .i64 i ∧ Hid (∀ j, j < i → (conB P Q G) (xs.getD j 0) = true) ∧ Hid (Up w wr) ∧ Hid (GrpAt wr o P Q G)) (fun vi _ => n - (intOf vi).toNat)
  case atStart => exact ⟨0, by omega, rfl, hid (fun j hj => by omega), HU0, HG0⟩
  case round =>
    obtain ⟨i, hi, rfl, HG, HU, HGr⟩ := hrel
    obtain ⟨c0, c1, c2⟩ := HGr.out
    by_cases hl : i < n
    · have hl1 : i < xs.length := by rw [HN.out]; exact hl
      obtain ⟨b1, o1, rfl, k1⟩ := ints_cell HC1.out HU.out hl1
      have HBi := hid (HBd.out i hl)
      have HS : Hid ((conB P Q G) (xs.getD i 0) = true → ∀ j, j < i + 1 → (conB P Q G) (xs.getD j 0) = true) := hid (fun h j hj => by
        rcases Nat.lt_or_ge j i with h3 | h3
        · exact HG.out j h3
        · obtain rfl : j = i := by omega
          exact h)
      clear hl1 HG
      generalize xs.getD i 0 = x at *
      go_wp2_with fail
      refine (M1.out x _ HU.out).mono ?_
      rintro e w3 ⟨rfl, hU3⟩
      have HU3 := hid (HU.out.trans hU3)
      have HG3 := hid (HGr.out.up hU3)
      clear hU3 c0 c1 c2
      by_cases hx : (conB P Q G) x = true
      · have Hx := hid hx
        rw [hx]
        clear hx
        go_wp2_with fail
        go_roundw
        case rel => exact ⟨i + 1, by omega, by go_num, hid (HS.out Hx.out), HU3, HG3⟩
        case measure => simp [intOf]; omega
      · have hx' : (conB P Q G) x = false := by simpa using hx
        obtain rfl := HBi.out hx'
        rw [hx']
        clear hx hx'
        go_wp2
        go_ret
        exact ⟨rfl, HU3.out⟩
    · obtain rfl : i = n := by omega
      have hX : X = true := by rw [← HX.out]; exact all_of (by rw [HN.out]; exact HG.out)
      subst hX
      go_wp2
      go_ret
      exact ⟨rfl, HU.out⟩

theorem bliAdd_ok (P Q G a b : Int) (w : World) (h0 : 0 ≤ a) (h1 : a < Q) (h2 : 0 ≤ b) (h3 : b < Q) (h4 : Q < 2305843009213693952) :
    Calls Tryz.prog 120 #[grp P Q G, .int .i64 a, .int .i64 b] w fun e w' => e = .returned (.int .i64 ((a + b) % Q)) ∧ Up w w' := by
  have M1 := hid (fun w' => Add_ok a b Q w' h0 h1 h2 h3 h4)
  clear h0 h1 h2 h3 h4
  go_enter Tryz.func120, Tryz.ntmps120
  go_wp2_with fail
  refine (M1.out _).mono ?_
  rintro e w1 ⟨rfl, hU1⟩
  have HU1 := hid (((Up.refl w).alloc _).trans hU1)
  clear hU1
  go_wp2
  go_ret
  exact ⟨rfl, HU1.out⟩

theorem bliSub_ok (P Q G a b : Int) (w : World) (h0 : 0 ≤ a) (h1 : a < Q) (h2 : 0 ≤ b) (h3 : b < Q) (h4 : Q < 2305843009213693952) :
    Calls Tryz.prog 125 #[grp P Q G, .int .i64 a, .int .i64 b] w fun e w' => e = .returned (.int .i64 ((a - b) % Q)) ∧ Up w w' := by
  have M1 := hid (fun w' => Sub_ok a b Q w' h0 h1 h2 h3 h4)
  clear h0 h1 h2 h3 h4
  go_enter Tryz.func125, Tryz.ntmps125
  go_wp2_with fail
  refine (M1.out _).mono ?_
  rintro e w1 ⟨rfl, hU1⟩
  have HU1 := hid (((Up.refl w).alloc _).trans hU1)
  clear hU1
  go_wp2
  go_ret
  exact ⟨rfl, HU1.out⟩

/-- The commitment of a receiver. -/
def bcm (P Q G y r al be : Int) : Int := pfold P Q 1 [r, G, y] [1, al, be]
theorem bcm_eq {P Q G y r al be : Int} (hQ : 2 ≤ Q) (hr : elB P Q r = true) : bcm P Q G y r al be = r * gpw P Q G al % P * gpw P Q y be % P := by
  obtain ⟨r0, r1, _⟩ := el_iff.1 hr
  unfold bcm
  simp only [pfold]
  rw [show gpw P Q r 1 = r by rw [gpw, Int.emod_eq_of_lt (by omega) (by omega)]; exact pw_one_exp (by omega) r1, Int.one_mul, Int.emod_eq_of_lt (by omega) r1]
theorem bcm_el {P Q G y r al be : Int} (hg : gvB P Q G = true) (hy : elB P Q y = true) (hr : elB P Q r = true) : elB P Q (bcm P Q G y r al be) = true := by
  have g := gv_iff.1 hg
  have g2 := g.P4
  have g3 := g.Q3
  rw [bcm_eq (by omega) hr]
  exact el_mul (by omega) (by omega) (el_mul (by omega) (by omega) hr (gpw_el (by omega) (by omega) (sgen_el hg) _)) (gpw_el (by omega) (by omega) hy _)

theorem bliCommit_ok (P Q G y r al be : Int) (w : World) (hP : -9223372036854775808 ≤ P) (hQ : Q ≤ 9223372036854775807) (hT : Tab w) (hg : gvB P Q G = true) (hy : elB P Q y = true) (hr : elB P Q r = true) (ha : exB Q al = true) (hb : exB Q be = true) :
    Calls Tryz.prog 122 #[grp P Q G, .int .i64 y, .int .i64 r, .int .i64 al, .int .i64 be] w fun e w' => e = .returned (.int .i64 (bcm P Q G y r al be)) ∧ Up w w' := by
  have g := gv_iff.1 hg
  have g3 := g.Q3
  have hE : prE P Q G [r, G, y] [1, al, be] = 0 := prE_zero.2 ⟨hg, rfl, by simp, by simp [hy, hr, sgen_el hg], by simp [ha, hb]; exact exB_iff.2 ⟨by omega, by omega⟩⟩
  have hV : prV P Q G [r, G, y] [1, al, be] = bcm P Q G y r al be := by rw [prV, if_pos hE]; rfl
  have M1 := hid (fun w' (v1 v2 : Value) (hU : Up w w') (h1 : IntsAt w' v1 [r, G, y]) (h2 : IntsAt w' v2 [1, al, be]) => Product_any P Q G v1 v2 [r, G, y] [1, al, be] w' hP hQ (hT.up hU) h1 h2)
  rw [hE, hV] at M1
  generalize bcm P Q G y r al be = V at *
  clear hE hV hT hg hy hr ha hb g g3
  go_enter Tryz.func122, Tryz.ntmps122
  go_wp2_with fail
  refine (M1.out _ _ _ ((((Up.refl w).alloc _).alloc _).alloc _) (ints_three (by go_simp) (by go_simp) (by go_simp)) (ints_three (by go_simp) (by go_simp) (by go_simp))).mono ?_
  rintro e w1 ⟨rfl, hU1⟩
  have HU1 := hid (((((Up.refl w).alloc _).alloc _).alloc _).trans hU1)
  clear hU1
  go_wp2
  go_ret
  exact ⟨rfl, HU1.out⟩

theorem scal_two {Q a b : Int} (h : [a, b].all (exB Q) = true) : (0 ≤ a ∧ a < Q) ∧ (0 ≤ b ∧ b < Q) := by
  simp only [List.all_cons, List.all_nil, Bool.and_true, Bool.and_eq_true] at h
  exact ⟨exB_iff.1 h.1, exB_iff.1 h.2⟩
theorem scal_three {Q a b c : Int} (h : [a, b, c].all (exB Q) = true) : (0 ≤ a ∧ a < Q) ∧ (0 ≤ b ∧ b < Q) ∧ (0 ≤ c ∧ c < Q) := by
  simp only [List.all_cons, List.all_nil, Bool.and_true, Bool.and_eq_true] at h
  exact ⟨exB_iff.1 h.1, exB_iff.1 h.2.1, exB_iff.1 h.2.2⟩
theorem scal_one {Q a : Int} (h : [a].all (exB Q) = true) : 0 ≤ a ∧ a < Q := by
  simp only [List.all_cons, List.all_nil, Bool.and_true] at h
  exact exB_iff.1 h
theorem gv_q {P Q G : Int} (hg : gvB P Q G = true) : 2 ≤ Q ∧ Q < 2305843009213693952 := by
  have g := gv_iff.1 hg
  have := g.P61
  have := g.Q3
  have := g.QP
  omega

theorem bliOffer_any (P Q G k : Int) (w : World) (hP : -9223372036854775808 ≤ P) (hQ : Q ≤ 9223372036854775807) (hT : Tab w) :
    Calls Tryz.prog 44 #[grp P Q G, .int .i64 k] w fun e w' => e = .returned (.tuple #[.int .i64 (orZ (errE (gvB P Q G) ([k].all (exB Q))) (pwi P G k)), .int .i64 (errE (gvB P Q G) ([k].all (exB Q)))]) ∧ Up w w' := by
  have M1 := hid (fun w' (hU : Up w w') => Valid_any P Q G w' hP hQ (hT.up hU))
  have M2 := hid (fun w' (v : Value) (hv : IntsAt w' v [k]) => bliScalars_any P Q G v [k] w' hv)
  have M3 := hid (fun w' (hU : Up w w') (hg : gvB P Q G = true) (hx : [k].all (exB Q) = true) => gpw_sc (P := P) (a := G) (scal_one hx).1 (scal_one hx).2 ▸ gPower_ok P Q G G k w' hQ (hT.up hU) hg (sgen_el hg) (by have := (scal_one hx).1; omega) (by have := (scal_one hx).2; omega))
  generalize pwi P G k = V at *
  generalize gvB P Q G = b1 at *
  generalize [k].all (exB Q) = b2 at *
  clear hT
  obtain ⟨o, ho⟩ : ∃ o, w.heap.size = o := ⟨_, rfl⟩
  have HO := hid ho
  clear ho
  go_enter Tryz.func44, Tryz.ntmps44
  go_wp2_with fail
  refine (M1.out _ ((Up.refl w).alloc _)).mono ?_
  rintro e w1 ⟨rfl, hU1⟩
  have HA1 := hid ((nums_three (w := w) (t := 23) HO.out).up hU1)
  have HU1 := hid (((Up.refl w).alloc _).trans hU1)
  clear hU1
  rw [HO.out]
  obtain ⟨c0, c1, c2⟩ := HA1.out
  cases b1
  · go_wp2
    go_ret2
    exact ⟨rfl, HU1.out⟩
  go_wp2_with fail
  refine (M2.out _ _ (ints_one (by go_simp))).mono ?_
  rintro e w2 ⟨rfl, hU2⟩
  have hU2 := ((Up.refl w1).alloc _).trans hU2
  have HA2 := hid (HA1.out.up hU2)
  have HU2 := hid (HU1.out.trans hU2)
  clear hU2 HA1 HU1 c0 c1 c2
  obtain ⟨c0, c1, c2⟩ := HA2.out
  cases b2
  · go_wp2
    go_ret2
    exact ⟨rfl, HU2.out⟩
  go_wp2_with fail
  refine (M3.out _ (HU2.out) (by trivial) (by trivial)).mono ?_
  rintro e w3 ⟨rfl, hU3⟩
  have HA3 := hid (HA2.out.up hU3)
  have HU3 := hid (HU2.out.trans hU3)
  clear hU3 HA2 HU2 c0 c1 c2
  go_wp2
  go_ret2
  exact ⟨rfl, HU3.out⟩

/-- The answer of a signer. -/
def ansV (Q x k c : Int) : Int := (k + c * x % Q) % Q
theorem bliAnswer_any (P Q G x k c : Int) (w : World) (hP : -9223372036854775808 ≤ P) (hQ : Q ≤ 9223372036854775807) (hT : Tab w) :
    Calls Tryz.prog 45 #[grp P Q G, .int .i64 x, .int .i64 k, .int .i64 c] w fun e w' => e = .returned (.tuple #[.int .i64 (orZ (errE (gvB P Q G) ([x, k, c].all (exB Q))) (ansV Q x k c)), .int .i64 (errE (gvB P Q G) ([x, k, c].all (exB Q)))]) ∧ Up w w' := by
  have M1 := hid (fun w' (hU : Up w w') => Valid_any P Q G w' hP hQ (hT.up hU))
  have M2 := hid (fun w' (v : Value) (hv : IntsAt w' v [x, k, c]) => bliScalars_any P Q G v [x, k, c] w' hv)
  have M3 := hid (fun w' (hg : gvB P Q G = true) (hx : [x, k, c].all (exB Q) = true) => Mul_ok c x Q w' (scal_three hx).2.2.1 (scal_three hx).2.2.2 (scal_three hx).1.1 (scal_three hx).1.2 (gv_q hg).2)
  have M4 := hid (fun w' (hg : gvB P Q G = true) (hx : [x, k, c].all (exB Q) = true) => bliAdd_ok P Q G k (c * x % Q) w' (scal_three hx).2.1.1 (scal_three hx).2.1.2 (Int.emod_nonneg _ (by have := gv_q hg; omega)) (Int.emod_lt_of_pos _ (by have := gv_q hg; omega)) (gv_q hg).2)
  unfold ansV
  generalize c * x % Q = u at *
  generalize (k + u) % Q = V at *
  generalize gvB P Q G = b1 at *
  generalize [x, k, c].all (exB Q) = b2 at *
  clear hT
  obtain ⟨o, ho⟩ : ∃ o, w.heap.size = o := ⟨_, rfl⟩
  have HO := hid ho
  clear ho
  go_enter Tryz.func45, Tryz.ntmps45
  go_wp2_with fail
  refine (M1.out _ ((Up.refl w).alloc _)).mono ?_
  rintro e w1 ⟨rfl, hU1⟩
  have HA1 := hid ((nums_three (w := w) (t := 23) HO.out).up hU1)
  have HU1 := hid (((Up.refl w).alloc _).trans hU1)
  clear hU1
  rw [HO.out]
  obtain ⟨c0, c1, c2⟩ := HA1.out
  cases b1
  · go_wp2
    go_ret2
    exact ⟨rfl, HU1.out⟩
  go_wp2_with fail
  refine (M2.out _ _ (ints_three (by go_simp) (by go_simp) (by go_simp))).mono ?_
  rintro e w2 ⟨rfl, hU2⟩
  have hU2 := ((Up.refl w1).alloc _).trans hU2
  have HA2 := hid (HA1.out.up hU2)
  have HU2 := hid (HU1.out.trans hU2)
  clear hU2 HA1 HU1 c0 c1 c2
  obtain ⟨c0, c1, c2⟩ := HA2.out
  cases b2
  · go_wp2
    go_ret2
    exact ⟨rfl, HU2.out⟩
  go_wp2_with fail
  refine (M3.out _ (by trivial) (by trivial)).mono ?_
  rintro e w3 ⟨rfl, hU3⟩
  have HA3 := hid (HA2.out.up hU3)
  have HU3 := hid (HU2.out.trans hU3)
  clear hU3 HA2 HU2 c0 c1 c2
  obtain ⟨c0, c1, c2⟩ := HA3.out
  go_wp2_with fail
  refine (M4.out _ (by trivial) (by trivial)).mono ?_
  rintro e w4 ⟨rfl, hU4⟩
  have HA4 := hid (HA3.out.up hU4)
  have HU4 := hid (HU3.out.trans hU4)
  clear hU4 HA3 HU3 c0 c1 c2
  go_wp2
  go_ret2
  exact ⟨rfl, HU4.out⟩
end Go.Proofs.YtdlcmpbpdbpanaaGreatDoor
namespace Go.Proofs.YtdlcmpbpdbpanaaGreatDoor
open Go.RowKit Go.Sp
set_option maxHeartbeats 4000000
set_option maxRecDepth 20000

/-- G^s is r y^c. -/
def rgtB (P Q G y r c s : Int) : Bool := decide (frgE P Q G y c s = 0) && (frgV P Q G y c s == r)
theorem bliRight_any (P Q G y r c s : Int) (w : World) (hP : -9223372036854775808 ≤ P) (hQ : Q ≤ 9223372036854775807) (hT : Tab w) :
    Calls Tryz.prog 123 #[grp P Q G, .int .i64 y, .int .i64 r, .int .i64 c, .int .i64 s] w fun e w' => e = .returned (.bool (rgtB P Q G y r c s)) ∧ Up w w' := by
  have M1 := hid (fun w' (hU : Up w w') => sigForge_any P Q G y c s w' hP hQ (hT.up hU))
  have HB : Hid (rgtB P Q G y r c s = (decide (frgE P Q G y c s = 0) && (frgV P Q G y c s == r))) := hid rfl
  generalize rgtB P Q G y r c s = T at *
  generalize frgE P Q G y c s = E at *
  generalize frgV P Q G y c s = V at *
  clear hT
  go_enter Tryz.func123, Tryz.ntmps123
  go_wp2_with fail
  refine (M1.out _ ((Up.refl w).alloc _)).mono ?_
  rintro e w1 ⟨rfl, hU1⟩
  have HU1 := hid (((Up.refl w).alloc _).trans hU1)
  clear hU1
  by_cases hE : E = 0
  case neg =>
    have d : (E == 0) = false := by simpa using hE
    have hX : T = false := by rw [HB.out, show decide (E = 0) = false by simpa using hE]; rfl
    subst hX
    clear hE
    go_wp2
    go_ret
    exact ⟨rfl, HU1.out⟩
  subst hE
  rw [show orZ 0 V = V from rfl]
  have HB2 : Hid (T = (V == r)) := hid (by rw [HB.out]; rfl)
  clear HB
  go_wp2
  go_ret
  exact ⟨by rw [HB2.out]; rfl, HU1.out⟩

/-- A right view. -/
def chkB (P Q G y r c s : Int) : Bool := gvB P Q G && ([y, r].all (conB P Q G) && ([c, s].all (exB Q) && rgtB P Q G y r c s))
theorem bliCheck_any (P Q G y r c s : Int) (w : World) (hP : -9223372036854775808 ≤ P) (hQ : Q ≤ 9223372036854775807) (hT : Tab w) :
    Calls Tryz.prog 52 #[grp P Q G, .int .i64 y, .agg #[.int .i64 r, .int .i64 c, .int .i64 s]] w fun e w' => e = .returned (.bool (chkB P Q G y r c s)) ∧ Up w w' := by
  have M1 := hid (fun w' (hU : Up w w') => Valid_any P Q G w' hP hQ (hT.up hU))
  have M2 := hid (fun w' (v : Value) (hU : Up w w') (hv : IntsAt w' v [y, r]) => bliElements_any P Q G v [y, r] w' hP hQ (hT.up hU) hv)
  have M3 := hid (fun w' (v : Value) (hv : IntsAt w' v [c, s]) => bliScalars_any P Q G v [c, s] w' hv)
  have M4 := hid (fun w' (hU : Up w w') => bliRight_any P Q G y r c s w' hP hQ (hT.up hU))
  have HB0 : Hid (chkB P Q G y r c s = (gvB P Q G && ([y, r].all (conB P Q G) && ([c, s].all (exB Q) && rgtB P Q G y r c s)))) := hid rfl
  generalize chkB P Q G y r c s = T at *
  generalize gvB P Q G = b1 at *
  generalize [y, r].all (conB P Q G) = b2 at *
  generalize [c, s].all (exB Q) = b3 at *
  generalize rgtB P Q G y r c s = b4 at *
  obtain ⟨o, ho⟩ : ∃ o, w.heap.size = o := ⟨_, rfl⟩
  have HO := hid ho
  obtain ⟨o1, ho1⟩ : ∃ o1, o + 1 = o1 := ⟨_, rfl⟩
  have HO1 := hid ho1
  clear hT ho ho1
  go_enter Tryz.func52, Tryz.ntmps52
  go_wp2_with fail
  refine (M1.out _ (((Up.refl w).alloc _).alloc _)).mono ?_
  rintro e w1 ⟨rfl, hU1⟩
  have HA1 := hid (((nums_three (w := w) (t := 23) HO.out).up ((Up.refl _).alloc _)).up hU1)
  have HV1 := hid (((nums_three (r := o1) (t := 80) (by have := HO.out; have := HO1.out; simp; omega))).up hU1)
  have HU1 := hid ((((Up.refl w).alloc _).alloc _).trans hU1)
  clear hU1
  rw [HO.out, HO1.out]
  obtain ⟨c0, c1, c2⟩ := HA1.out
  obtain ⟨v0, v1, v2⟩ := HV1.out
  cases b1
  case false =>
    have hX : T = false := HB0.out
    subst hX
    go_wp2
    go_ret
    exact ⟨rfl, HU1.out⟩
  have HB1 : Hid (T = (b2 && (b3 && b4))) := hid HB0.out
  clear HB0
  go_wp2_with fail
  refine (M2.out _ _ (HU1.out.alloc _) (ints_two (by go_simp) (by go_simp))).mono ?_
  rintro e w2 ⟨rfl, hU2⟩
  have hU2 := ((Up.refl w1).alloc _).trans hU2
  have HA2 := hid (HA1.out.up hU2)
  have HV2 := hid (HV1.out.up hU2)
  have HU2 := hid (HU1.out.trans hU2)
  clear hU2 HA1 HV1 HU1 c0 c1 c2 v0 v1 v2
  obtain ⟨c0, c1, c2⟩ := HA2.out
  obtain ⟨v0, v1, v2⟩ := HV2.out
  cases b2
  case false =>
    have hX : T = false := HB1.out
    subst hX
    go_wp2
    go_ret
    exact ⟨rfl, HU2.out⟩
  have HB2 : Hid (T = (b3 && b4)) := hid HB1.out
  clear HB1
  go_wp2_with fail
  refine (M3.out _ _ (ints_two (by go_simp) (by go_simp))).mono ?_
  rintro e w3 ⟨rfl, hU3⟩
  have hU3 := ((Up.refl w2).alloc _).trans hU3
  have HA3 := hid (HA2.out.up hU3)
  have HV3 := hid (HV2.out.up hU3)
  have HU3 := hid (HU2.out.trans hU3)
  clear hU3 HA2 HV2 HU2 c0 c1 c2 v0 v1 v2
  obtain ⟨c0, c1, c2⟩ := HA3.out
  obtain ⟨v0, v1, v2⟩ := HV3.out
  cases b3
  case false =>
    have hX : T = false := HB2.out
    subst hX
    go_wp2
    go_ret
    exact ⟨rfl, HU3.out⟩
  have HB3 : Hid (T = (b4)) := hid HB2.out
  clear HB2
  go_wp2_with fail
  refine (M4.out _ (HU3.out)).mono ?_
  rintro e w4 ⟨rfl, hU4⟩
  have HA4 := hid (HA3.out.up hU4)
  have HV4 := hid (HV3.out.up hU4)
  have HU4 := hid (HU3.out.trans hU4)
  clear hU4 HA3 HV3 HU3 c0 c1 c2 v0 v1 v2
  go_wp2
  go_ret
  exact ⟨by rw [HB3.out]; rfl, HU4.out⟩

/-- The first error of a view and a signature. -/
def bgE (b1 b2 b3 b4 : Bool) : Int := if b1 = true then (if b2 = true then (if b3 = true then (if b4 = true then 0 else 12) else 11) else 2) else 1
def gvnE (P Q G y r c s : Int) (m : List Int) (sc ss : Int) : Int := bgE (gvB P Q G) ([y].all (conB P Q G)) (chkB P Q G y r c s) (verS P Q G y m sc ss)
theorem gvnE_zero {P Q G y r c s : Int} {m : List Int} {sc ss : Int} (h : gvnE P Q G y r c s m sc ss = 0) : gvB P Q G = true ∧ chkB P Q G y r c s = true ∧ verS P Q G y m sc ss = true := by
  unfold gvnE bgE at h
  revert h
  cases gvB P Q G <;> cases [y].all (conB P Q G) <;> cases chkB P Q G y r c s <;> cases verS P Q G y m sc ss <;> simp
theorem chkB_ok {P Q G y r c s : Int} (h : chkB P Q G y r c s = true) : gvB P Q G = true ∧ elB P Q y = true ∧ elB P Q r = true ∧ exB Q c = true ∧ exB Q s = true ∧ frgV P Q G y c s = r := by
  simp [chkB, rgtB, conB] at h
  obtain ⟨h1, h2, h3, h4⟩ := h
  refine ⟨h1, h2.1.2, h2.2.2, h3.1, h3.2, h4.2⟩
theorem verS_ok {P Q G y sc ss : Int} {m : List Int} (h : verS P Q G y m sc ss = true) : gvB P Q G = true ∧ elB P Q y = true ∧ exB Q sc = true ∧ exB Q ss = true ∧ m.length ≤ 16384 ∧ sigC P Q G (frgV P Q G y sc ss) y m = sc := by
  simp [verS] at h
  obtain ⟨h1, h2, h3⟩ := h
  obtain ⟨a, b, c, d⟩ := frgE_ok h1
  exact ⟨a, b, c, d, h2, h3⟩

theorem bliGiven_any (P Q G y r c s : Int) (v : Value) (m : List Int) (sc ss : Int) (w : World) (hP : -9223372036854775808 ≤ P) (hQ : Q ≤ 9223372036854775807) (hT : Tab w) (hS : TabS w) (hv : SeqAt .u8 w v m) (hm : ∀ x ∈ m, 0 ≤ x ∧ x ≤ 255) :
    Calls Tryz.prog 124 #[grp P Q G, .int .i64 y, .agg #[.int .i64 r, .int .i64 c, .int .i64 s], v, .agg #[.int .i64 sc, .int .i64 ss]] w fun e w' => e = .returned (.int .i64 (gvnE P Q G y r c s m sc ss)) ∧ Up w w' := by
  have M1 := hid (fun w' (hU : Up w w') => Valid_any P Q G w' hP hQ (hT.up hU))
  have M2 := hid (fun w' (v : Value) (hU : Up w w') (hv : IntsAt w' v [y]) => bliElements_any P Q G v [y] w' hP hQ (hT.up hU) hv)
  have M3 := hid (fun w' (hU : Up w w') => bliCheck_any P Q G y r c s w' hP hQ (hT.up hU))
  have M4 := hid (fun w' (hU : Up w w') => sigVerify_any P Q G y sc ss v m w' hP hQ (hT.up hU) (hS.up hU) (hv.up hU) hm)
  unfold gvnE
  generalize gvB P Q G = b1 at *
  generalize [y].all (conB P Q G) = b2 at *
  generalize chkB P Q G y r c s = b3 at *
  generalize verS P Q G y m sc ss = b4 at *
  obtain ⟨va, vc, rfl, _, _⟩ := hv.shape
  obtain ⟨n, hn⟩ : ∃ n, m.length = n := ⟨_, rfl⟩
  rw [hn] at M4 ⊢
  obtain ⟨o, ho⟩ : ∃ o, w.heap.size = o := ⟨_, rfl⟩
  have HO := hid ho
  obtain ⟨o1, ho1⟩ : ∃ o1, o + 1 = o1 := ⟨_, rfl⟩
  have HO1 := hid ho1
  obtain ⟨o2, ho2⟩ : ∃ o2, o1 + 1 = o2 := ⟨_, rfl⟩
  have HO2 := hid ho2
  clear hT hS hv hm hn ho ho1 ho2
  go_enter Tryz.func124, Tryz.ntmps124
  go_wp2_with fail
  refine (M1.out _ ((((Up.refl w).alloc _).alloc _).alloc _)).mono ?_
  rintro e w1 ⟨rfl, hU1⟩
  have HA1 := hid (((nums_three (w := w) (t := 23) HO.out).up (((Up.refl _).alloc _).alloc _)).up hU1)
  have HV1 := hid (((nums_three (r := o1) (t := 80) (by have := HO.out; have := HO1.out; have := HO2.out; simp; omega)).up ((Up.refl _).alloc _)).up hU1)
  have HS1 := hid (((nums_two (r := o2) (t := 67) (x := sc) (y := ss) (by have := HO.out; have := HO1.out; have := HO2.out; simp; omega))).up hU1)
  have HU1 := hid (((((Up.refl w).alloc _).alloc _).alloc _).trans hU1)
  clear hU1
  rw [HO.out, HO1.out, HO2.out]
  obtain ⟨c0, c1, c2⟩ := HA1.out
  obtain ⟨v0, v1, v2⟩ := HV1.out
  obtain ⟨s0, s1⟩ := HS1.out
  cases b1
  · go_wp2
    go_ret
    exact ⟨rfl, HU1.out⟩
  go_wp2_with fail
  refine (M2.out _ _ (HU1.out.alloc _) (ints_one (by go_simp))).mono ?_
  rintro e w2 ⟨rfl, hU2⟩
  have hU2 := ((Up.refl w1).alloc _).trans hU2
  have HA2 := hid (HA1.out.up hU2)
  have HV2 := hid (HV1.out.up hU2)
  have HS2 := hid (HS1.out.up hU2)
  have HU2 := hid (HU1.out.trans hU2)
  clear hU2 HA1 HV1 HS1 HU1 c0 c1 c2 v0 v1 v2 s0 s1
  obtain ⟨c0, c1, c2⟩ := HA2.out
  obtain ⟨v0, v1, v2⟩ := HV2.out
  obtain ⟨s0, s1⟩ := HS2.out
  cases b2
  · go_wp2
    go_ret
    exact ⟨rfl, HU2.out⟩
  go_wp2_with fail
  refine (M3.out _ (HU2.out)).mono ?_
  rintro e w3 ⟨rfl, hU3⟩
  have HA3 := hid (HA2.out.up hU3)
  have HV3 := hid (HV2.out.up hU3)
  have HS3 := hid (HS2.out.up hU3)
  have HU3 := hid (HU2.out.trans hU3)
  clear hU3 HA2 HV2 HS2 HU2 c0 c1 c2 v0 v1 v2 s0 s1
  obtain ⟨c0, c1, c2⟩ := HA3.out
  obtain ⟨v0, v1, v2⟩ := HV3.out
  obtain ⟨s0, s1⟩ := HS3.out
  cases b3
  · go_wp2
    go_ret
    exact ⟨rfl, HU3.out⟩
  go_wp2_with fail
  refine (M4.out _ (HU3.out)).mono ?_
  rintro e w4 ⟨rfl, hU4⟩
  have HA4 := hid (HA3.out.up hU4)
  have HV4 := hid (HV3.out.up hU4)
  have HS4 := hid (HS3.out.up hU4)
  have HU4 := hid (HU3.out.trans hU4)
  clear hU4 HA3 HV3 HS3 HU3 c0 c1 c2 v0 v1 v2 s0 s1
  cases b4
  · go_wp2
    go_ret
    exact ⟨rfl, HU4.out⟩
  go_wp2
  go_ret
  exact ⟨rfl, HU4.out⟩

theorem bliFactors_any (P Q G y r c s : Int) (v : Value) (m : List Int) (sc ss : Int) (w : World) (hP : -9223372036854775808 ≤ P) (hQ : Q ≤ 9223372036854775807) (hT : Tab w) (hS : TabS w) (hv : SeqAt .u8 w v m) (hm : ∀ x ∈ m, 0 ≤ x ∧ x ≤ 255) :
    Calls Tryz.prog 57 #[grp P Q G, .int .i64 y, .agg #[.int .i64 r, .int .i64 c, .int .i64 s], v, .agg #[.int .i64 sc, .int .i64 ss]] w fun e w' => e = .returned (.tuple #[.int .i64 (orZ (gvnE P Q G y r c s m sc ss) ((ss - s) % Q)), .int .i64 (orZ (gvnE P Q G y r c s m sc ss) ((c - sc) % Q)), .int .i64 (gvnE P Q G y r c s m sc ss)]) ∧ Up w w' := by
  have M1 := hid (fun w' (hU : Up w w') => bliGiven_any P Q G y r c s v m sc ss w' hP hQ (hT.up hU) (hS.up hU) (hv.up hU) hm)
  have M2 := hid (fun (h : gvnE P Q G y r c s m sc ss = 0) w' => by
    obtain ⟨h1, h2, h3⟩ := gvnE_zero h
    obtain ⟨_, _, _, _, h4, _⟩ := chkB_ok h2
    obtain ⟨_, _, _, h5, _⟩ := verS_ok h3
    exact bliSub_ok P Q G ss s w' (exB_iff.1 h5).1 (exB_iff.1 h5).2 (exB_iff.1 h4).1 (exB_iff.1 h4).2 (gv_q h1).2)
  have M3 := hid (fun (h : gvnE P Q G y r c s m sc ss = 0) w' => by
    obtain ⟨h1, h2, h3⟩ := gvnE_zero h
    obtain ⟨_, _, _, h4, _⟩ := chkB_ok h2
    obtain ⟨_, _, h5, _⟩ := verS_ok h3
    exact bliSub_ok P Q G c sc w' (exB_iff.1 h4).1 (exB_iff.1 h4).2 (exB_iff.1 h5).1 (exB_iff.1 h5).2 (gv_q h1).2)
  generalize gvnE P Q G y r c s m sc ss = E at *
  generalize (ss - s) % Q = X1 at *
  generalize (c - sc) % Q = X2 at *
  obtain ⟨va, vc, rfl, _, _⟩ := hv.shape
  obtain ⟨n, hn⟩ : ∃ n, m.length = n := ⟨_, rfl⟩
  rw [hn] at M1 ⊢
  obtain ⟨o, ho⟩ : ∃ o, w.heap.size = o := ⟨_, rfl⟩
  have HO := hid ho
  obtain ⟨o1, ho1⟩ : ∃ o1, o + 1 = o1 := ⟨_, rfl⟩
  have HO1 := hid ho1
  obtain ⟨o2, ho2⟩ : ∃ o2, o1 + 1 = o2 := ⟨_, rfl⟩
  have HO2 := hid ho2
  clear hT hS hv hm hn ho ho1 ho2
  go_enter Tryz.func57, Tryz.ntmps57
  go_wp2_with fail
  refine (M1.out _ ((((Up.refl w).alloc _).alloc _).alloc _)).mono ?_
  rintro e w1 ⟨rfl, hU1⟩
  have HA1 := hid (((nums_three (w := w) (t := 23) HO.out).up (((Up.refl _).alloc _).alloc _)).up hU1)
  have HV1 := hid (((nums_three (r := o1) (t := 80) (by have := HO.out; have := HO1.out; have := HO2.out; simp; omega)).up ((Up.refl _).alloc _)).up hU1)
  have HS1 := hid (((nums_two (r := o2) (t := 67) (x := sc) (y := ss) (by have := HO.out; have := HO1.out; have := HO2.out; simp; omega))).up hU1)
  have HU1 := hid (((((Up.refl w).alloc _).alloc _).alloc _).trans hU1)
  clear hU1
  rw [HO.out, HO1.out, HO2.out]
  obtain ⟨c0, c1, c2⟩ := HA1.out
  obtain ⟨v0, v1, v2⟩ := HV1.out
  obtain ⟨s0, s1⟩ := HS1.out
  by_cases hE : E = 0
  case neg =>
    have d : (E != 0) = true := by simpa using hE
    have Hz1 : Hid (orZ E X1 = 0) := hid (by rw [orZ, if_neg hE])
    have Hz2 : Hid (orZ E X2 = 0) := hid (by rw [orZ, if_neg hE])
    clear hE
    go_wp2
    go_ret3
    exact ⟨by rw [Hz1.out, Hz2.out]; rfl, HU1.out⟩
  have N1 := hid (M2.out hE)
  have N2 := hid (M3.out hE)
  subst hE
  clear M2 M3
  have fc0 := cellF c0
  have fc1 := cellF c1
  have fc2 := cellF c2
  have fv0 := cellF v0
  have fv1 := cellF v1
  have fv2 := cellF v2
  have fs0 := cellF s0
  have fs1 := cellF s1
  clear c0 c1 c2 v0 v1 v2 s0 s1
  go_wp2_with fail
  refine wp_region_up (by kernel_rfl) (by kernel_rfl) ?_
  repeat (go_big_quiet_step ((first
      | (go_at_call 125; first
        | ((with_reducible (show Calls _ _ #[_, .int .i64 ss, .int .i64 s] _ _)); exact Calls.up_of (N1.out _))
        | ((with_reducible (show Calls _ _ #[_, .int .i64 c, .int .i64 sc] _ _)); exact Calls.up_of (N2.out _))))))
  refine wpQuiet_nil ?_
  rintro w2 ⟨⟨_, hU2⟩, rfl⟩
  try dsimp only
  have HA2 := hid (HA1.out.up hU2)
  have HV2 := hid (HV1.out.up hU2)
  have HS2 := hid (HS1.out.up hU2)
  have HU2 := hid (HU1.out.trans hU2)
  clear hU2 HA1 HV1 HS1 HU1 fc0 fc1 fc2 fv0 fv1 fv2 fs0 fs1
  go_wp2
  go_ret3
  exact ⟨rfl, HU2.out⟩
end Go.Proofs.YtdlcmpbpdbpanaaGreatDoor
