/- The reference of the signature: Scalar. The reference of the signature: Verify. What an honest signer's answer fits. Package blind: scalars, elements, sums, the commitment, offers, answers. Package blind: right, Check, given, Factors. -/
import Derived.Test.YtoaomjdpiealfaaGreatDoorMB25
namespace Go.Proofs.YtoaomjdpiealfaaGreatDoor
open Go.RowKit Go.Sp
set_option maxHeartbeats 4000000
set_option maxRecDepth 20000

theorem r22Scalar_any (P Q G x : Int) (w : World) :
    Calls Tryz.prog 133 #[grp P Q G, .int .i64 x] w fun e w' => e = .returned (.bool (exB Q x)) ∧ Up w w' := by
  have HB : Hid (exB Q x = (decide (0 ≤ x) && decide (x < Q))) := hid rfl
  generalize exB Q x = X at *
  by_cases c1 : x ≥ 0
  case neg =>
    have d1 : decide (x ≥ 0) = false := by simpa using c1
    have hX : X = false := by rw [HB.out, show decide (0 ≤ x) = false from d1]; rfl
    subst hX
    clear c1
    go_enter Tryz.func133, Tryz.ntmps133
    go_wp2
    go_ret
    exact ⟨rfl, (Up.refl w).alloc _⟩
  have d1 : decide (x ≥ 0) = true := by simpa using c1
  have HB2 : Hid (X = decide (x < Q)) := hid (by rw [HB.out, show decide (0 ≤ x) = true from d1]; rfl)
  clear HB
  go_enter Tryz.func133, Tryz.ntmps133
  go_wp2
  go_ret
  exact ⟨by rw [HB2.out]; rfl, (Up.refl w).alloc _⟩

theorem r22Commitment_ok (P Q G y c s : Int) (w : World) (hg : gvB P Q G = true) (hy : elB P Q y = true) (hc : exB Q c = true) (hs : exB Q s = true) :
    Calls Tryz.prog 135 #[grp P Q G, .int .i64 y, .int .i64 c, .int .i64 s] w fun e w' => e = .returned (.int .i64 (frgV P Q G y c s)) ∧ Up w w' := by
  have g := gv_iff.1 hg
  have g1 := g.P61
  have g2 := g.P4
  have g3 := g.Q3
  have g4 := g.QP
  have g5 := g.G2
  have g6 := g.GP
  have hy2 := el_iff.1 hy
  have hc2 := exB_iff.1 hc
  have hs2 := exB_iff.1 hs
  have M1 := hid (fun w' => rgPower_sc P Q G G s w' (by omega) g6 hs2.1 hs2.2 g1 (by omega))
  have M2 := hid (fun w' => rgPower_ok P Q G y (-c) w' (by omega) hy2.2.1 (by omega) (by omega) g1 (by omega) (by omega))
  have r1 := pwi_range (P := P) (a := G) (e := s) (by omega)
  have r2 := gpw_nonneg (P := P) (Q := Q) (a := y) (m := -c) (by omega)
  have M3 := hid (fun w' => rgMul_ok P Q G (pwi P G s) (gpw P Q y (-c)) w' r1.1 r1.2 r2.1 r2.2 g1)
  have hw : IntKind.i64.wrap (0 - c) = -c := by rw [IntKind.wrap_i64]; omega
  have hw2 : IntKind.i64.wrap (-c) = -c := by rw [IntKind.wrap_i64]; omega
  have HF : Hid (frgV P Q G y c s = pwi P G s * gpw P Q y (-c) % P) := hid rfl
  rw [HF.out]
  generalize pwi P G s = V1 at *
  generalize gpw P Q y (-c) = V2 at *
  generalize V1 * V2 % P = V at *
  clear HF r1 r2 hg hy hc hs g hy2 hc2 hs2
  obtain ⟨o, ho⟩ : ∃ o, w.heap.size = o := ⟨_, rfl⟩
  have HO := hid ho
  clear ho
  go_enter Tryz.func135, Tryz.ntmps135
  have HA0 := hid (nums_three (w := w) (x := P) (y := Q) (z := G) (t := 23) HO.out)
  have HU0 := hid ((Up.refl w).alloc (.cells #[.int .i64 P, .int .i64 Q, .int .i64 G] 23))
  obtain ⟨c0, c1, c2⟩ := HA0.out
  have fc0 := cellF c0
  have fc1 := cellF c1
  have fc2 := cellF c2
  clear c0 c1 c2
  go_wp2_with fail
  rw [HO.out]
  refine wp_region_up (by kernel_rfl) (by kernel_rfl) ?_
  repeat (go_big_quiet_step ((first
      | (go_at_call 53; first
          | ((with_reducible (show Calls _ _ #[_, .int .i64 G, _] _ _)); exact Calls.up_of (M1.out _))
          | ((with_reducible (show Calls _ _ #[_, .int .i64 y, _] _ _)); exact Calls.up_of (M2.out _)))
      | (go_at_call 57; exact Calls.up_of (M3.out _)))))
  refine wpQuiet_nil ?_
  rintro w1 ⟨⟨_, hU1⟩, rfl⟩
  try dsimp only
  have HA1 := hid (HA0.out.up hU1)
  have HU1 := hid (HU0.out.trans hU1)
  clear hU1 HA0 HU0 fc0 fc1 fc2
  go_wp2
  go_ret
  exact ⟨rfl, HU1.out⟩
end Go.Proofs.YtoaomjdpiealfaaGreatDoor
namespace Go.Proofs.YtoaomjdpiealfaaGreatDoor
open Go.RowKit Go.Sp
set_option maxHeartbeats 4000000
set_option maxRecDepth 20000

theorem gv_two {P Q G : Int} (hg : gvB P Q G = true) : 2 ≤ Q ∧ Q < 2305843009213693952 := by
  have g := gv_iff.1 hg
  have := g.P61
  have := g.Q3
  have := g.QP
  omega

theorem r22Verify_any (P Q G y c s : Int) (v : Value) (m : List Int) (w : World) (hP : -9223372036854775808 ≤ P) (hQ : Q ≤ 9223372036854775807) (hv : SeqAt .u8 w v m) (hm : ∀ x ∈ m, 0 ≤ x ∧ x ≤ 255) :
    Calls Tryz.prog 73 #[grp P Q G, .int .i64 y, v, .agg #[.int .i64 c, .int .i64 s]] w fun e w' => e = .returned (.bool (verS P Q G y m c s)) ∧ Up w w' := by
  have M0 := hid (fun w' => rContains_any P Q G y w' hP hQ)
  have M1 := hid (fun w' => r22Scalar_any P Q G c w')
  have M2 := hid (fun w' => r22Scalar_any P Q G s w')
  have M3 := hid (fun w' (h1 : conB P Q G y = true) (h2 : exB Q c = true) (h3 : exB Q s = true) => r22Commitment_ok P Q G y c s w' (by simp [conB] at h1; exact h1.1) (by simp [conB] at h1; exact h1.2) h2 h3)
  have M4 := hid (fun w' (hU : Up w w') (h1 : conB P Q G y = true) (hl : m.length ≤ 16384) => r22Challenge_ok P Q G (frgV P Q G y c s) y v m w' (by simp [conB] at h1; exact (gv_two h1.1).1) (by simp [conB] at h1; exact (gv_two h1.1).2) (hv.up hU) hl hm)
  have HB0 : Hid (verS P Q G y m c s = (conB P Q G y && (decide (m.length ≤ 16384) && (exB Q c && (exB Q s && decide (sigC P Q G (frgV P Q G y c s) y m = c)))))) := hid (by
    unfold verS frgE errE conB
    cases gvB P Q G <;> cases elB P Q y <;> cases exB Q c <;> cases exB Q s <;> simp)
  generalize verS P Q G y m c s = T at *
  generalize frgV P Q G y c s = V at *
  generalize sigC P Q G V y m = D at *
  generalize conB P Q G y = b1 at *
  generalize exB Q c = b2 at *
  generalize exB Q s = b3 at *
  obtain ⟨va, vc, rfl, _, _⟩ := hv.shape
  obtain ⟨n, hn⟩ : ∃ n, m.length = n := ⟨_, rfl⟩
  rw [hn] at M4 HB0 ⊢
  obtain ⟨o, ho⟩ : ∃ o, w.heap.size = o := ⟨_, rfl⟩
  have HO := hid ho
  obtain ⟨o1, ho1⟩ : ∃ o1, o + 1 = o1 := ⟨_, rfl⟩
  have HO1 := hid ho1
  clear hv hm hn ho ho1
  go_enter Tryz.func73, Tryz.ntmps73
  go_wp2_with fail
  refine (M0.out _).mono ?_
  rintro e w1 ⟨rfl, hU1⟩
  have HA1 := hid (((nums_three (w := w) (t := 23) HO.out).up ((Up.refl _).alloc _)).up hU1)
  have HS1 := hid (((nums_two (r := o1) (t := 36) (x := c) (y := s) (by have := HO.out; have := HO1.out; simp; omega))).up hU1)
  have HU1 := hid ((((Up.refl w).alloc _).alloc _).trans hU1)
  clear hU1
  rw [HO.out, HO1.out]
  obtain ⟨c0, c1, c2⟩ := HA1.out
  obtain ⟨s0, s1⟩ := HS1.out
  cases b1
  case false =>
    have hX : T = false := HB0.out
    subst hX
    go_wp2
    go_ret
    exact ⟨rfl, HU1.out⟩
  have HB1 : Hid (T = (decide (n ≤ 16384) && (b2 && (b3 && decide (D = c))))) := hid HB0.out
  clear HB0
  by_cases hl : n ≤ 16384
  case neg =>
    have dl : decide ((n : Int) > 16384) = true := by simp; omega
    have hX : T = false := by rw [HB1.out, show decide (n ≤ 16384) = false by simpa using hl]; rfl
    subst hX
    clear hl
    go_wp2
    go_ret
    exact ⟨rfl, HU1.out⟩
  have dl : decide ((n : Int) > 16384) = false := by simp; omega
  have HB2 : Hid (T = (b2 && (b3 && decide (D = c)))) := hid (by rw [HB1.out, show decide (n ≤ 16384) = true by simpa using hl]; rfl)
  clear HB1
  go_wp2_with fail
  refine (M1.out _).mono ?_
  rintro e w2 ⟨rfl, hU2⟩
  have HA2 := hid (HA1.out.up hU2)
  have HS2 := hid (HS1.out.up hU2)
  have HU2 := hid (HU1.out.trans hU2)
  clear hU2 HA1 HS1 HU1 c0 c1 c2 s0 s1
  obtain ⟨c0, c1, c2⟩ := HA2.out
  obtain ⟨s0, s1⟩ := HS2.out
  cases b2
  case false =>
    have hX : T = false := HB2.out
    subst hX
    go_wp2
    go_ret
    exact ⟨rfl, HU2.out⟩
  have HB3 : Hid (T = (b3 && decide (D = c))) := hid HB2.out
  clear HB2
  go_wp2_with fail
  refine (M2.out _).mono ?_
  rintro e w3 ⟨rfl, hU3⟩
  have HA3 := hid (HA2.out.up hU3)
  have HS3 := hid (HS2.out.up hU3)
  have HU3 := hid (HU2.out.trans hU3)
  clear hU3 HA2 HS2 HU2 c0 c1 c2 s0 s1
  obtain ⟨c0, c1, c2⟩ := HA3.out
  obtain ⟨s0, s1⟩ := HS3.out
  cases b3
  case false =>
    have hX : T = false := HB3.out
    subst hX
    go_wp2
    go_ret
    exact ⟨rfl, HU3.out⟩
  have HB4 : Hid (T = (decide (D = c))) := hid HB3.out
  clear HB3
  have N4 := hid (fun w' (hU : Up w w') => M4.out w' hU (by trivial) hl)
  clear M4 hl
  have fc0 := cellF c0
  have fc1 := cellF c1
  have fc2 := cellF c2
  have fs0 := cellF s0
  have fs1 := cellF s1
  clear c0 c1 c2 s0 s1
  go_wp2_with fail
  refine wp_region_up (by kernel_rfl) (by kernel_rfl) ?_
  repeat (go_big_quiet_step ((first
      | (go_at_call 135; exact Calls.up_of (M3.out _ (by trivial) (by trivial) (by trivial)))
      | (go_at_call 134; exact Calls.up_of (N4.out _ (HU3.out.trans (UpFrom.up _)))))))
  refine wpQuiet_nil ?_
  rintro w4 ⟨⟨_, hU4⟩, rfl⟩
  try dsimp only
  have HA4 := hid (HA3.out.up hU4)
  have HS4 := hid (HS3.out.up hU4)
  have HU4 := hid (HU3.out.trans hU4)
  clear hU4 HA3 HS3 HU3 fc0 fc1 fc2 fs0 fs1
  go_wp2
  go_ret
  exact ⟨by rw [HB4.out]; first | rfl | (congr 1; exact (decide_eq_decide.2 Iff.rfl)), HU4.out⟩
end Go.Proofs.YtoaomjdpiealfaaGreatDoor
namespace Go.Proofs.YtoaomjdpiealfaaGreatDoor
open Go.RowKit Go.Sp

theorem frgV_pow {P Q G y c s : Int} (h0 : 0 ≤ s) (h1 : s < Q) : frgV P Q G y c s = gpw P Q G s * gpw P Q y (-c) % P := by rw [frgV, gpw_sc h0 h1]
theorem honest_fits {P Q G x k c : Int} (hg : gvB P Q G = true) (hx : exB Q x = true) (hk : exB Q k = true) : frgV P Q G (pwi P G x) c ((k + c * x % Q) % Q) = pwi P G k := by
  have g := gv_iff.1 hg
  have g2 := g.P4
  have g3 := g.Q3
  obtain ⟨x0, x1⟩ := exB_iff.1 hx
  obtain ⟨k0, k1⟩ := exB_iff.1 hk
  have hG := sgen_el hg
  rw [frgV_pow (Int.emod_nonneg _ (by omega)) (Int.emod_lt_of_pos _ (by omega)), ← gpw_sc (Q := Q) x0 x1, ← gpw_sc (Q := Q) k0 k1, gpw_mul (by omega) (by omega) hG, gpw_add (by omega) (by omega) hG]
  refine gpw_base_mod ?_
  rw [Int.add_emod, Int.emod_emod, ← Int.add_emod, Int.add_assoc, Int.add_emod, Int.add_emod (c * x % Q), Int.emod_emod, ← Int.add_emod (c * x), ← Int.add_emod]
  congr 1
  rw [Int.mul_neg, Int.mul_comm x c]
  omega
theorem eml (a b m : Int) : a % m * b % m = a * b % m := by rw [Int.mul_emod, Int.emod_emod, ← Int.mul_emod]
theorem emr (a b m : Int) : a * (b % m) % m = a * b % m := by rw [Int.mul_emod, Int.emod_emod, ← Int.mul_emod]
theorem undo {P Q y c : Int} (hP : 2 ≤ P) (hQ : 1 ≤ Q) (hy : elB P Q y = true) : gpw P Q y c * gpw P Q y (-c) % P = 1 := by
  rw [gpw_add hP hQ hy, show c + -c = 0 by omega]; exact gpw_zero hP
theorem fits_back {P Q G y c s : Int} (hg : gvB P Q G = true) (hy : elB P Q y = true) (h0 : 0 ≤ s) (h1 : s < Q) : frgV P Q G y c s * gpw P Q y c % P = gpw P Q G s := by
  have g := gv_iff.1 hg
  have g2 := g.P4
  have g3 := g.Q3
  have u := undo (c := c) (show 2 ≤ P by omega) (show 1 ≤ Q by omega) hy
  obtain ⟨r0, r1⟩ := gpw_nonneg (P := P) (Q := Q) (a := G) (m := s) (by omega)
  rw [frgV, ← gpw_sc (Q := Q) h0 h1, eml, Int.mul_assoc, Int.mul_comm (gpw P Q y (-c)), ← emr, u, Int.mul_one]
  exact Int.emod_eq_of_lt r0 r1
theorem one_fit {P Q G y c s x : Int} (hg : gvB P Q G = true) (hy : elB P Q y = true) (h0 : 0 ≤ s) (h1 : s < Q) (hx : elB P Q x = true) : x * gpw P Q y c % P = gpw P Q G s ↔ x = frgV P Q G y c s := by
  have g := gv_iff.1 hg
  have g2 := g.P4
  have g3 := g.Q3
  obtain ⟨x0, x1, _⟩ := el_iff.1 hx
  constructor
  · intro h
    have u := undo (c := c) (show 2 ≤ P by omega) (show 1 ≤ Q by omega) hy
    rw [frgV, ← gpw_sc (Q := Q) h0 h1, ← h, eml, Int.mul_assoc, ← emr, u, Int.mul_one]
    exact (Int.emod_eq_of_lt (by omega) x1).symm
  · intro h
    rw [h]
    exact fits_back hg hy h0 h1
end Go.Proofs.YtoaomjdpiealfaaGreatDoor
namespace Go.Proofs.YtoaomjdpiealfaaGreatDoor
open Go.RowKit Go.Sp
set_option maxHeartbeats 4000000
set_option maxRecDepth 20000

theorem bliScalars_any (P Q G : Int) (v : Value) (xs : List Int) (w : World) (hv : IntsAt w v xs) :
    Calls Tryz.prog 32 #[grp P Q G, v] w fun e w' => e = .returned (.bool (xs.all (exB Q))) ∧ Up w w' := by
  obtain ⟨l1, a1, cp1, rfl, hc1⟩ := hv
  have HC1 := hid hc1
  obtain ⟨X, hX⟩ : ∃ X, xs.all (exB Q) = X := ⟨_, rfl⟩
  have HX := hid hX
  obtain ⟨n, hn⟩ : ∃ n, xs.length = n := ⟨_, rfl⟩
  have HN := hid hn
  rw [hX]
  rw [hn] at l1
  rw [hn]
  have HBd : Hid (∀ i, i < n → (exB Q) (xs.getD i 0) = false → X = false) := hid (fun i hi h => by rw [← HX.out]; exact not_all (by rw [HN.out]; exact hi) h)
  clear hc1 hX hn
  go_enter Tryz.func32, Tryz.ntmps32
  go_wp2_with fail
  obtain ⟨o, ho⟩ : ∃ o, w.heap.size = o := ⟨_, rfl⟩
  have HG0 := hid (nums_three (w := w) (x := P) (y := Q) (z := G) (t := 23) ho)
  have HU0 := hid ((Up.refl w).alloc (.cells #[.int .i64 P, .int .i64 Q, .int .i64 G] 23))
  try rw [ho]
  clear ho
  go_loopw [9] (fun vi wr => ∃ i : Nat, i ≤ n ∧ vi = .int .i64 i ∧ Hid (∀ j, j < i → (exB Q) (xs.getD j 0) = true) ∧ Hid (Up w wr) ∧ Hid (GrpAt wr o P Q G)) (fun vi _ => n - (intOf vi).toNat)
  case atStart => exact ⟨0, by omega, rfl, hid (fun j hj => by omega), HU0, HG0⟩
  case round =>
    obtain ⟨i, hi, rfl, HG, HU, HGr⟩ := hrel
    obtain ⟨c0, c1, c2⟩ := HGr.out
    by_cases hl : i < n
    · have hl1 : i < xs.length := by rw [HN.out]; exact hl
      obtain ⟨b1, o1, rfl, k1⟩ := ints_cell HC1.out HU.out hl1
      have HBi := hid (HBd.out i hl)
      have HS : Hid ((exB Q) (xs.getD i 0) = true → ∀ j, j < i + 1 → (exB Q) (xs.getD j 0) = true) := hid (fun h j hj => by
        rcases Nat.lt_or_ge j i with h3 | h3
        · exact HG.out j h3
        · obtain rfl : j = i := by omega
          exact h)
      clear hl1 HG
      generalize xs.getD i 0 = x at *
      by_cases c1 : x < 0
      · have d1 : decide (x < 0) = true := by simpa using c1
        obtain rfl := HBi.out (by simp [exB]; omega)
        clear c1
        go_wp2
        go_ret
        exact ⟨rfl, HU.out⟩
      have d1 : decide (x < 0) = false := by simpa using c1
      by_cases c2 : x ≥ Q
      · have d2 : decide (x ≥ Q) = true := by simpa using c2
        obtain rfl := HBi.out (by simp [exB]; omega)
        clear c1 c2
        go_wp2
        go_ret
        exact ⟨rfl, HU.out⟩
      have d2 : decide (x ≥ Q) = false := by simpa using c2
      have Hx : Hid (exB Q x = true) := hid (exB_iff.2 ⟨by omega, by omega⟩)
      clear c1 c2
      go_wp2_with fail
      go_roundw
      case rel => exact ⟨i + 1, by omega, by go_num, hid (HS.out Hx.out), HU, HGr⟩
      case measure => simp [intOf]; omega
    · obtain rfl : i = n := by omega
      have hX : X = true := by rw [← HX.out]; exact all_of (by rw [HN.out]; exact HG.out)
      subst hX
      go_wp2
      go_ret
      exact ⟨rfl, HU.out⟩

theorem bliElements_any (P Q G : Int) (v : Value) (xs : List Int) (w : World) (hP : -9223372036854775808 ≤ P) (hQ : Q ≤ 9223372036854775807) (hT : Tab w) (hv : IntsAt w v xs) :
    Calls Tryz.prog 33 #[grp P Q G, v] w fun e w' => e = .returned (.bool (xs.all (conB P Q G))) ∧ Up w w' := by
  have M1 := hid (fun (x : Int) (w' : World) (hU : Up w w') => Contains_any P Q G x w' hP hQ (hT.up hU))
  clear hT
  obtain ⟨l1, a1, cp1, rfl, hc1⟩ := hv
  have HC1 := hid hc1
  obtain ⟨X, hX⟩ : ∃ X, xs.all (conB P Q G) = X := ⟨_, rfl⟩
  have HX := hid hX
  obtain ⟨n, hn⟩ : ∃ n, xs.length = n := ⟨_, rfl⟩
  have HN := hid hn
  rw [hX]
  rw [hn] at l1
  rw [hn]
  have HBd : Hid (∀ i, i < n → (conB P Q G) (xs.getD i 0) = false → X = false) := hid (fun i hi h => by rw [← HX.out]; exact not_all (by rw [HN.out]; exact hi) h)
  clear hc1 hX hn
  go_enter Tryz.func33, Tryz.ntmps33
  go_wp2_with fail
  obtain ⟨o, ho⟩ : ∃ o, w.heap.size = o := ⟨_, rfl⟩
  have HG0 := hid (nums_three (w := w) (x := P) (y := Q) (z := G) (t := 23) ho)
  have HU0 := hid ((Up.refl w).alloc (.cells #[.int .i64 P, .int .i64 Q, .int .i64 G] 23))
  try rw [ho]
  clear ho
  go_loopw [9] (fun vi wr => ∃ i : Nat, i ≤ n ∧ vi = .int .i64 i ∧ Hid (∀ j, j < i → (conB P Q G) (xs.getD j 0) = true) ∧ Hid (Up w wr) ∧ Hid (GrpAt wr o P Q G)) (fun vi _ => n - (intOf vi).toNat)
  case atStart => exact ⟨0, by omega, rfl, hid (fun j hj => by omega), HU0, HG0⟩
  case round =>
    obtain ⟨i, hi, rfl, HG, HU, HGr⟩ := hrel
    obtain ⟨c0, c1, c2⟩ := HGr.out
    by_cases hl : i < n
    · have hl1 : i < xs.length := by rw [HN.out]; exact hl
      obtain ⟨b1, o1, rfl, k1⟩ := ints_cell HC1.out HU.out hl1
      have HBi := hid (HBd.out i hl)
      have HS : Hid ((conB P Q G) (xs.getD i 0) = true → ∀ j, j < i + 1 → (conB P Q G) (xs.getD j 0) = true) := hid (fun h j hj => by
        rcases Nat.lt_or_ge j i with h3 | h3
        · exact HG.out j h3
        · obtain rfl : j = i := by omega
          exact h)
      clear hl1 HG
      generalize xs.getD i 0 = x at *
      go_wp2_with fail
      refine (M1.out x _ HU.out).mono ?_
      rintro e w3 ⟨rfl, hU3⟩
      have HU3 := hid (HU.out.trans hU3)
      have HG3 := hid (HGr.out.up hU3)
      clear hU3 c0 c1 c2
      by_cases hx : (conB P Q G) x = true
      · have Hx := hid hx
        rw [hx]
        clear hx
        go_wp2_with fail
        go_roundw
        case rel => exact ⟨i + 1, by omega, by go_num, hid (HS.out Hx.out), HU3, HG3⟩
        case measure => simp [intOf]; omega
      · have hx' : (conB P Q G) x = false := by simpa using hx
        obtain rfl := HBi.out hx'
        rw [hx']
        clear hx hx'
        go_wp2
        go_ret
        exact ⟨rfl, HU3.out⟩
    · obtain rfl : i = n := by omega
      have hX : X = true := by rw [← HX.out]; exact all_of (by rw [HN.out]; exact HG.out)
      subst hX
      go_wp2
      go_ret
      exact ⟨rfl, HU.out⟩

theorem bliAdd_ok (P Q G a b : Int) (w : World) (h0 : 0 ≤ a) (h1 : a < Q) (h2 : 0 ≤ b) (h3 : b < Q) (h4 : Q < 2305843009213693952) :
    Calls Tryz.prog 36 #[grp P Q G, .int .i64 a, .int .i64 b] w fun e w' => e = .returned (.int .i64 ((a + b) % Q)) ∧ Up w w' := by
  have M1 := hid (fun w' => Add_ok a b Q w' h0 h1 h2 h3 h4)
  clear h0 h1 h2 h3 h4
  go_enter Tryz.func36, Tryz.ntmps36
  go_wp2_with fail
  refine (M1.out _).mono ?_
  rintro e w1 ⟨rfl, hU1⟩
  have HU1 := hid (((Up.refl w).alloc _).trans hU1)
  clear hU1
  go_wp2
  go_ret
  exact ⟨rfl, HU1.out⟩

/-- The commitment of a receiver. -/
def bcm (P Q G y r al be : Int) : Int := pfold P Q 1 [r, G, y] [1, al, be]
theorem bcm_eq {P Q G y r al be : Int} (hQ : 2 ≤ Q) (hr : elB P Q r = true) : bcm P Q G y r al be = r * gpw P Q G al % P * gpw P Q y be % P := by
  obtain ⟨r0, r1, _⟩ := el_iff.1 hr
  unfold bcm
  simp only [pfold]
  rw [show gpw P Q r 1 = r by rw [gpw, Int.emod_eq_of_lt (by omega) (by omega)]; exact pw_one_exp (by omega) r1, Int.one_mul, Int.emod_eq_of_lt (by omega) r1]
theorem bcm_el {P Q G y r al be : Int} (hg : gvB P Q G = true) (hy : elB P Q y = true) (hr : elB P Q r = true) : elB P Q (bcm P Q G y r al be) = true := by
  have g := gv_iff.1 hg
  have g2 := g.P4
  have g3 := g.Q3
  rw [bcm_eq (by omega) hr]
  exact el_mul (by omega) (by omega) (el_mul (by omega) (by omega) hr (gpw_el (by omega) (by omega) (sgen_el hg) _)) (gpw_el (by omega) (by omega) hy _)

theorem bliCommit_ok (P Q G y r al be : Int) (w : World) (hP : -9223372036854775808 ≤ P) (hQ : Q ≤ 9223372036854775807) (hT : Tab w) (hg : gvB P Q G = true) (hy : elB P Q y = true) (hr : elB P Q r = true) (ha : exB Q al = true) (hb : exB Q be = true) :
    Calls Tryz.prog 34 #[grp P Q G, .int .i64 y, .int .i64 r, .int .i64 al, .int .i64 be] w fun e w' => e = .returned (.int .i64 (bcm P Q G y r al be)) ∧ Up w w' := by
  have g := gv_iff.1 hg
  have g3 := g.Q3
  have hE : prE P Q G [r, G, y] [1, al, be] = 0 := prE_zero.2 ⟨hg, rfl, by simp, by simp [hy, hr, sgen_el hg], by simp [ha, hb]; exact exB_iff.2 ⟨by omega, by omega⟩⟩
  have hV : prV P Q G [r, G, y] [1, al, be] = bcm P Q G y r al be := by rw [prV, if_pos hE]; rfl
  have M1 := hid (fun w' (v1 v2 : Value) (hU : Up w w') (h1 : IntsAt w' v1 [r, G, y]) (h2 : IntsAt w' v2 [1, al, be]) => Product_any P Q G v1 v2 [r, G, y] [1, al, be] w' hP hQ (hT.up hU) h1 h2)
  rw [hE, hV] at M1
  generalize bcm P Q G y r al be = V at *
  clear hE hV hT hg hy hr ha hb g g3
  go_enter Tryz.func34, Tryz.ntmps34
  go_wp2_with fail
  refine (M1.out _ _ _ ((((Up.refl w).alloc _).alloc _).alloc _) (ints_three (by go_simp) (by go_simp) (by go_simp)) (ints_three (by go_simp) (by go_simp) (by go_simp))).mono ?_
  rintro e w1 ⟨rfl, hU1⟩
  have HU1 := hid (((((Up.refl w).alloc _).alloc _).alloc _).trans hU1)
  clear hU1
  go_wp2
  go_ret
  exact ⟨rfl, HU1.out⟩

theorem scal_two {Q a b : Int} (h : [a, b].all (exB Q) = true) : (0 ≤ a ∧ a < Q) ∧ (0 ≤ b ∧ b < Q) := by
  simp only [List.all_cons, List.all_nil, Bool.and_true, Bool.and_eq_true] at h
  exact ⟨exB_iff.1 h.1, exB_iff.1 h.2⟩
theorem scal_three {Q a b c : Int} (h : [a, b, c].all (exB Q) = true) : (0 ≤ a ∧ a < Q) ∧ (0 ≤ b ∧ b < Q) ∧ (0 ≤ c ∧ c < Q) := by
  simp only [List.all_cons, List.all_nil, Bool.and_true, Bool.and_eq_true] at h
  exact ⟨exB_iff.1 h.1, exB_iff.1 h.2.1, exB_iff.1 h.2.2⟩
theorem scal_one {Q a : Int} (h : [a].all (exB Q) = true) : 0 ≤ a ∧ a < Q := by
  simp only [List.all_cons, List.all_nil, Bool.and_true] at h
  exact exB_iff.1 h
theorem gv_q {P Q G : Int} (hg : gvB P Q G = true) : 2 ≤ Q ∧ Q < 2305843009213693952 := by
  have g := gv_iff.1 hg
  have := g.P61
  have := g.Q3
  have := g.QP
  omega

theorem bliOffer_any (P Q G k : Int) (w : World) (hP : -9223372036854775808 ≤ P) (hQ : Q ≤ 9223372036854775807) (hT : Tab w) :
    Calls Tryz.prog 10 #[grp P Q G, .int .i64 k] w fun e w' => e = .returned (.tuple #[.int .i64 (orZ (errE (gvB P Q G) ([k].all (exB Q))) (pwi P G k)), .int .i64 (errE (gvB P Q G) ([k].all (exB Q)))]) ∧ Up w w' := by
  have M1 := hid (fun w' (hU : Up w w') => Valid_any P Q G w' hP hQ (hT.up hU))
  have M2 := hid (fun w' (v : Value) (hv : IntsAt w' v [k]) => bliScalars_any P Q G v [k] w' hv)
  have M3 := hid (fun w' (hU : Up w w') (hg : gvB P Q G = true) (hx : [k].all (exB Q) = true) => gpw_sc (P := P) (a := G) (scal_one hx).1 (scal_one hx).2 ▸ gPower_ok P Q G G k w' hQ (hT.up hU) hg (sgen_el hg) (by have := (scal_one hx).1; omega) (by have := (scal_one hx).2; omega))
  generalize pwi P G k = V at *
  generalize gvB P Q G = b1 at *
  generalize [k].all (exB Q) = b2 at *
  clear hT
  obtain ⟨o, ho⟩ : ∃ o, w.heap.size = o := ⟨_, rfl⟩
  have HO := hid ho
  clear ho
  go_enter Tryz.func10, Tryz.ntmps10
  go_wp2_with fail
  refine (M1.out _ ((Up.refl w).alloc _)).mono ?_
  rintro e w1 ⟨rfl, hU1⟩
  have HA1 := hid ((nums_three (w := w) (t := 23) HO.out).up hU1)
  have HU1 := hid (((Up.refl w).alloc _).trans hU1)
  clear hU1
  rw [HO.out]
  obtain ⟨c0, c1, c2⟩ := HA1.out
  cases b1
  · go_wp2
    go_ret2
    exact ⟨rfl, HU1.out⟩
  go_wp2_with fail
  refine (M2.out _ _ (ints_one (by go_simp))).mono ?_
  rintro e w2 ⟨rfl, hU2⟩
  have hU2 := ((Up.refl w1).alloc _).trans hU2
  have HA2 := hid (HA1.out.up hU2)
  have HU2 := hid (HU1.out.trans hU2)
  clear hU2 HA1 HU1 c0 c1 c2
  obtain ⟨c0, c1, c2⟩ := HA2.out
  cases b2
  · go_wp2
    go_ret2
    exact ⟨rfl, HU2.out⟩
  go_wp2_with fail
  refine (M3.out _ (HU2.out) (by trivial) (by trivial)).mono ?_
  rintro e w3 ⟨rfl, hU3⟩
  have HA3 := hid (HA2.out.up hU3)
  have HU3 := hid (HU2.out.trans hU3)
  clear hU3 HA2 HU2 c0 c1 c2
  go_wp2
  go_ret2
  exact ⟨rfl, HU3.out⟩

/-- The answer of a signer. -/
def ansV (Q x k c : Int) : Int := (k + c * x % Q) % Q
theorem bliAnswer_any (P Q G x k c : Int) (w : World) (hP : -9223372036854775808 ≤ P) (hQ : Q ≤ 9223372036854775807) (hT : Tab w) :
    Calls Tryz.prog 12 #[grp P Q G, .int .i64 x, .int .i64 k, .int .i64 c] w fun e w' => e = .returned (.tuple #[.int .i64 (orZ (errE (gvB P Q G) ([x, k, c].all (exB Q))) (ansV Q x k c)), .int .i64 (errE (gvB P Q G) ([x, k, c].all (exB Q)))]) ∧ Up w w' := by
  have M1 := hid (fun w' (hU : Up w w') => Valid_any P Q G w' hP hQ (hT.up hU))
  have M2 := hid (fun w' (v : Value) (hv : IntsAt w' v [x, k, c]) => bliScalars_any P Q G v [x, k, c] w' hv)
  have M3 := hid (fun w' (hg : gvB P Q G = true) (hx : [x, k, c].all (exB Q) = true) => Mul_ok c x Q w' (scal_three hx).2.2.1 (scal_three hx).2.2.2 (scal_three hx).1.1 (scal_three hx).1.2 (gv_q hg).2)
  have M4 := hid (fun w' (hg : gvB P Q G = true) (hx : [x, k, c].all (exB Q) = true) => bliAdd_ok P Q G k (c * x % Q) w' (scal_three hx).2.1.1 (scal_three hx).2.1.2 (Int.emod_nonneg _ (by have := gv_q hg; omega)) (Int.emod_lt_of_pos _ (by have := gv_q hg; omega)) (gv_q hg).2)
  unfold ansV
  generalize c * x % Q = u at *
  generalize (k + u) % Q = V at *
  generalize gvB P Q G = b1 at *
  generalize [x, k, c].all (exB Q) = b2 at *
  clear hT
  obtain ⟨o, ho⟩ : ∃ o, w.heap.size = o := ⟨_, rfl⟩
  have HO := hid ho
  clear ho
  go_enter Tryz.func12, Tryz.ntmps12
  go_wp2_with fail
  refine (M1.out _ ((Up.refl w).alloc _)).mono ?_
  rintro e w1 ⟨rfl, hU1⟩
  have HA1 := hid ((nums_three (w := w) (t := 23) HO.out).up hU1)
  have HU1 := hid (((Up.refl w).alloc _).trans hU1)
  clear hU1
  rw [HO.out]
  obtain ⟨c0, c1, c2⟩ := HA1.out
  cases b1
  · go_wp2
    go_ret2
    exact ⟨rfl, HU1.out⟩
  go_wp2_with fail
  refine (M2.out _ _ (ints_three (by go_simp) (by go_simp) (by go_simp))).mono ?_
  rintro e w2 ⟨rfl, hU2⟩
  have hU2 := ((Up.refl w1).alloc _).trans hU2
  have HA2 := hid (HA1.out.up hU2)
  have HU2 := hid (HU1.out.trans hU2)
  clear hU2 HA1 HU1 c0 c1 c2
  obtain ⟨c0, c1, c2⟩ := HA2.out
  cases b2
  · go_wp2
    go_ret2
    exact ⟨rfl, HU2.out⟩
  go_wp2_with fail
  refine (M3.out _ (by trivial) (by trivial)).mono ?_
  rintro e w3 ⟨rfl, hU3⟩
  have HA3 := hid (HA2.out.up hU3)
  have HU3 := hid (HU2.out.trans hU3)
  clear hU3 HA2 HU2 c0 c1 c2
  obtain ⟨c0, c1, c2⟩ := HA3.out
  go_wp2_with fail
  refine (M4.out _ (by trivial) (by trivial)).mono ?_
  rintro e w4 ⟨rfl, hU4⟩
  have HA4 := hid (HA3.out.up hU4)
  have HU4 := hid (HU3.out.trans hU4)
  clear hU4 HA3 HU3 c0 c1 c2
  go_wp2
  go_ret2
  exact ⟨rfl, HU4.out⟩
end Go.Proofs.YtoaomjdpiealfaaGreatDoor
namespace Go.Proofs.YtoaomjdpiealfaaGreatDoor
open Go.RowKit Go.Sp
set_option maxHeartbeats 4000000
set_option maxRecDepth 20000

/-- G^s is r y^c. -/
def rgtB (P Q G y r c s : Int) : Bool := decide (frgE P Q G y c s = 0) && (frgV P Q G y c s == r)
theorem bliRight_any (P Q G y r c s : Int) (w : World) (hP : -9223372036854775808 ≤ P) (hQ : Q ≤ 9223372036854775807) (hT : Tab w) :
    Calls Tryz.prog 38 #[grp P Q G, .int .i64 y, .int .i64 r, .int .i64 c, .int .i64 s] w fun e w' => e = .returned (.bool (rgtB P Q G y r c s)) ∧ Up w w' := by
  have M1 := hid (fun w' (hU : Up w w') => sigForge_any P Q G y c s w' hP hQ (hT.up hU))
  have HB : Hid (rgtB P Q G y r c s = (decide (frgE P Q G y c s = 0) && (frgV P Q G y c s == r))) := hid rfl
  generalize rgtB P Q G y r c s = T at *
  generalize frgE P Q G y c s = E at *
  generalize frgV P Q G y c s = V at *
  clear hT
  go_enter Tryz.func38, Tryz.ntmps38
  go_wp2_with fail
  refine (M1.out _ ((Up.refl w).alloc _)).mono ?_
  rintro e w1 ⟨rfl, hU1⟩
  have HU1 := hid (((Up.refl w).alloc _).trans hU1)
  clear hU1
  by_cases hE : E = 0
  case neg =>
    have d : (E == 0) = false := by simpa using hE
    have hX : T = false := by rw [HB.out, show decide (E = 0) = false by simpa using hE]; rfl
    subst hX
    clear hE
    go_wp2
    go_ret
    exact ⟨rfl, HU1.out⟩
  subst hE
  rw [show orZ 0 V = V from rfl]
  have HB2 : Hid (T = (V == r)) := hid (by rw [HB.out]; rfl)
  clear HB
  go_wp2
  go_ret
  exact ⟨by rw [HB2.out]; rfl, HU1.out⟩

/-- A right view. -/
def chkB (P Q G y r c s : Int) : Bool := gvB P Q G && ([y, r].all (conB P Q G) && ([c, s].all (exB Q) && rgtB P Q G y r c s))
theorem bliCheck_any (P Q G y r c s : Int) (w : World) (hP : -9223372036854775808 ≤ P) (hQ : Q ≤ 9223372036854775807) (hT : Tab w) :
    Calls Tryz.prog 25 #[grp P Q G, .int .i64 y, .agg #[.int .i64 r, .int .i64 c, .int .i64 s]] w fun e w' => e = .returned (.bool (chkB P Q G y r c s)) ∧ Up w w' := by
  have M1 := hid (fun w' (hU : Up w w') => Valid_any P Q G w' hP hQ (hT.up hU))
  have M2 := hid (fun w' (v : Value) (hU : Up w w') (hv : IntsAt w' v [y, r]) => bliElements_any P Q G v [y, r] w' hP hQ (hT.up hU) hv)
  have M3 := hid (fun w' (v : Value) (hv : IntsAt w' v [c, s]) => bliScalars_any P Q G v [c, s] w' hv)
  have M4 := hid (fun w' (hU : Up w w') => bliRight_any P Q G y r c s w' hP hQ (hT.up hU))
  have HB0 : Hid (chkB P Q G y r c s = (gvB P Q G && ([y, r].all (conB P Q G) && ([c, s].all (exB Q) && rgtB P Q G y r c s)))) := hid rfl
  generalize chkB P Q G y r c s = T at *
  generalize gvB P Q G = b1 at *
  generalize [y, r].all (conB P Q G) = b2 at *
  generalize [c, s].all (exB Q) = b3 at *
  generalize rgtB P Q G y r c s = b4 at *
  obtain ⟨o, ho⟩ : ∃ o, w.heap.size = o := ⟨_, rfl⟩
  have HO := hid ho
  obtain ⟨o1, ho1⟩ : ∃ o1, o + 1 = o1 := ⟨_, rfl⟩
  have HO1 := hid ho1
  clear hT ho ho1
  go_enter Tryz.func25, Tryz.ntmps25
  go_wp2_with fail
  refine (M1.out _ (((Up.refl w).alloc _).alloc _)).mono ?_
  rintro e w1 ⟨rfl, hU1⟩
  have HA1 := hid (((nums_three (w := w) (t := 23) HO.out).up ((Up.refl _).alloc _)).up hU1)
  have HV1 := hid (((nums_three (r := o1) (t := 33) (by have := HO.out; have := HO1.out; simp; omega))).up hU1)
  have HU1 := hid ((((Up.refl w).alloc _).alloc _).trans hU1)
  clear hU1
  rw [HO.out, HO1.out]
  obtain ⟨c0, c1, c2⟩ := HA1.out
  obtain ⟨v0, v1, v2⟩ := HV1.out
  cases b1
  case false =>
    have hX : T = false := HB0.out
    subst hX
    go_wp2
    go_ret
    exact ⟨rfl, HU1.out⟩
  have HB1 : Hid (T = (b2 && (b3 && b4))) := hid HB0.out
  clear HB0
  go_wp2_with fail
  refine (M2.out _ _ (HU1.out.alloc _) (ints_two (by go_simp) (by go_simp))).mono ?_
  rintro e w2 ⟨rfl, hU2⟩
  have hU2 := ((Up.refl w1).alloc _).trans hU2
  have HA2 := hid (HA1.out.up hU2)
  have HV2 := hid (HV1.out.up hU2)
  have HU2 := hid (HU1.out.trans hU2)
  clear hU2 HA1 HV1 HU1 c0 c1 c2 v0 v1 v2
  obtain ⟨c0, c1, c2⟩ := HA2.out
  obtain ⟨v0, v1, v2⟩ := HV2.out
  cases b2
  case false =>
    have hX : T = false := HB1.out
    subst hX
    go_wp2
    go_ret
    exact ⟨rfl, HU2.out⟩
  have HB2 : Hid (T = (b3 && b4)) := hid HB1.out
  clear HB1
  go_wp2_with fail
  refine (M3.out _ _ (ints_two (by go_simp) (by go_simp))).mono ?_
  rintro e w3 ⟨rfl, hU3⟩
  have hU3 := ((Up.refl w2).alloc _).trans hU3
  have HA3 := hid (HA2.out.up hU3)
  have HV3 := hid (HV2.out.up hU3)
  have HU3 := hid (HU2.out.trans hU3)
  clear hU3 HA2 HV2 HU2 c0 c1 c2 v0 v1 v2
  obtain ⟨c0, c1, c2⟩ := HA3.out
  obtain ⟨v0, v1, v2⟩ := HV3.out
  cases b3
  case false =>
    have hX : T = false := HB2.out
    subst hX
    go_wp2
    go_ret
    exact ⟨rfl, HU3.out⟩
  have HB3 : Hid (T = (b4)) := hid HB2.out
  clear HB2
  go_wp2_with fail
  refine (M4.out _ (HU3.out)).mono ?_
  rintro e w4 ⟨rfl, hU4⟩
  have HA4 := hid (HA3.out.up hU4)
  have HV4 := hid (HV3.out.up hU4)
  have HU4 := hid (HU3.out.trans hU4)
  clear hU4 HA3 HV3 HU3 c0 c1 c2 v0 v1 v2
  go_wp2
  go_ret
  exact ⟨by rw [HB3.out]; rfl, HU4.out⟩

/-- The first error of a view and a signature. -/
def bgE (b1 b2 b3 b4 : Bool) : Int := if b1 = true then (if b2 = true then (if b3 = true then (if b4 = true then 0 else 12) else 11) else 2) else 1
def gvnE (P Q G y r c s : Int) (m : List Int) (sc ss : Int) : Int := bgE (gvB P Q G) ([y].all (conB P Q G)) (chkB P Q G y r c s) (verS P Q G y m sc ss)
theorem gvnE_zero {P Q G y r c s : Int} {m : List Int} {sc ss : Int} (h : gvnE P Q G y r c s m sc ss = 0) : gvB P Q G = true ∧ chkB P Q G y r c s = true ∧ verS P Q G y m sc ss = true := by
  unfold gvnE bgE at h
  revert h
  cases gvB P Q G <;> cases [y].all (conB P Q G) <;> cases chkB P Q G y r c s <;> cases verS P Q G y m sc ss <;> simp
theorem chkB_ok {P Q G y r c s : Int} (h : chkB P Q G y r c s = true) : gvB P Q G = true ∧ elB P Q y = true ∧ elB P Q r = true ∧ exB Q c = true ∧ exB Q s = true ∧ frgV P Q G y c s = r := by
  simp [chkB, rgtB, conB] at h
  obtain ⟨h1, h2, h3, h4⟩ := h
  refine ⟨h1, h2.1.2, h2.2.2, h3.1, h3.2, h4.2⟩
theorem verS_ok {P Q G y sc ss : Int} {m : List Int} (h : verS P Q G y m sc ss = true) : gvB P Q G = true ∧ elB P Q y = true ∧ exB Q sc = true ∧ exB Q ss = true ∧ m.length ≤ 16384 ∧ sigC P Q G (frgV P Q G y sc ss) y m = sc := by
  simp [verS] at h
  obtain ⟨h1, h2, h3⟩ := h
  obtain ⟨a, b, c, d⟩ := frgE_ok h1
  exact ⟨a, b, c, d, h2, h3⟩

theorem bliGiven_any (P Q G y r c s : Int) (v : Value) (m : List Int) (sc ss : Int) (w : World) (hP : -9223372036854775808 ≤ P) (hQ : Q ≤ 9223372036854775807) (hT : Tab w) (hS : TabS w) (hv : SeqAt .u8 w v m) (hm : ∀ x ∈ m, 0 ≤ x ∧ x ≤ 255) :
    Calls Tryz.prog 39 #[grp P Q G, .int .i64 y, .agg #[.int .i64 r, .int .i64 c, .int .i64 s], v, .agg #[.int .i64 sc, .int .i64 ss]] w fun e w' => e = .returned (.int .i64 (gvnE P Q G y r c s m sc ss)) ∧ Up w w' := by
  have M1 := hid (fun w' (hU : Up w w') => Valid_any P Q G w' hP hQ (hT.up hU))
  have M2 := hid (fun w' (v : Value) (hU : Up w w') (hv : IntsAt w' v [y]) => bliElements_any P Q G v [y] w' hP hQ (hT.up hU) hv)
  have M3 := hid (fun w' (hU : Up w w') => bliCheck_any P Q G y r c s w' hP hQ (hT.up hU))
  have M4 := hid (fun w' (hU : Up w w') => sigVerify_any P Q G y sc ss v m w' hP hQ (hT.up hU) (hS.up hU) (hv.up hU) hm)
  unfold gvnE
  generalize gvB P Q G = b1 at *
  generalize [y].all (conB P Q G) = b2 at *
  generalize chkB P Q G y r c s = b3 at *
  generalize verS P Q G y m sc ss = b4 at *
  obtain ⟨va, vc, rfl, _, _⟩ := hv.shape
  obtain ⟨n, hn⟩ : ∃ n, m.length = n := ⟨_, rfl⟩
  rw [hn] at M4 ⊢
  obtain ⟨o, ho⟩ : ∃ o, w.heap.size = o := ⟨_, rfl⟩
  have HO := hid ho
  obtain ⟨o1, ho1⟩ : ∃ o1, o + 1 = o1 := ⟨_, rfl⟩
  have HO1 := hid ho1
  obtain ⟨o2, ho2⟩ : ∃ o2, o1 + 1 = o2 := ⟨_, rfl⟩
  have HO2 := hid ho2
  clear hT hS hv hm hn ho ho1 ho2
  go_enter Tryz.func39, Tryz.ntmps39
  go_wp2_with fail
  refine (M1.out _ ((((Up.refl w).alloc _).alloc _).alloc _)).mono ?_
  rintro e w1 ⟨rfl, hU1⟩
  have HA1 := hid (((nums_three (w := w) (t := 23) HO.out).up (((Up.refl _).alloc _).alloc _)).up hU1)
  have HV1 := hid (((nums_three (r := o1) (t := 33) (by have := HO.out; have := HO1.out; have := HO2.out; simp; omega)).up ((Up.refl _).alloc _)).up hU1)
  have HS1 := hid (((nums_two (r := o2) (t := 36) (x := sc) (y := ss) (by have := HO.out; have := HO1.out; have := HO2.out; simp; omega))).up hU1)
  have HU1 := hid (((((Up.refl w).alloc _).alloc _).alloc _).trans hU1)
  clear hU1
  rw [HO.out, HO1.out, HO2.out]
  obtain ⟨c0, c1, c2⟩ := HA1.out
  obtain ⟨v0, v1, v2⟩ := HV1.out
  obtain ⟨s0, s1⟩ := HS1.out
  cases b1
  · go_wp2
    go_ret
    exact ⟨rfl, HU1.out⟩
  go_wp2_with fail
  refine (M2.out _ _ (HU1.out.alloc _) (ints_one (by go_simp))).mono ?_
  rintro e w2 ⟨rfl, hU2⟩
  have hU2 := ((Up.refl w1).alloc _).trans hU2
  have HA2 := hid (HA1.out.up hU2)
  have HV2 := hid (HV1.out.up hU2)
  have HS2 := hid (HS1.out.up hU2)
  have HU2 := hid (HU1.out.trans hU2)
  clear hU2 HA1 HV1 HS1 HU1 c0 c1 c2 v0 v1 v2 s0 s1
  obtain ⟨c0, c1, c2⟩ := HA2.out
  obtain ⟨v0, v1, v2⟩ := HV2.out
  obtain ⟨s0, s1⟩ := HS2.out
  cases b2
  · go_wp2
    go_ret
    exact ⟨rfl, HU2.out⟩
  go_wp2_with fail
  refine (M3.out _ (HU2.out)).mono ?_
  rintro e w3 ⟨rfl, hU3⟩
  have HA3 := hid (HA2.out.up hU3)
  have HV3 := hid (HV2.out.up hU3)
  have HS3 := hid (HS2.out.up hU3)
  have HU3 := hid (HU2.out.trans hU3)
  clear hU3 HA2 HV2 HS2 HU2 c0 c1 c2 v0 v1 v2 s0 s1
  obtain ⟨c0, c1, c2⟩ := HA3.out
  obtain ⟨v0, v1, v2⟩ := HV3.out
  obtain ⟨s0, s1⟩ := HS3.out
  cases b3
  · go_wp2
    go_ret
    exact ⟨rfl, HU3.out⟩
  go_wp2_with fail
  refine (M4.out _ (HU3.out)).mono ?_
  rintro e w4 ⟨rfl, hU4⟩
  have HA4 := hid (HA3.out.up hU4)
  have HV4 := hid (HV3.out.up hU4)
  have HS4 := hid (HS3.out.up hU4)
  have HU4 := hid (HU3.out.trans hU4)
  clear hU4 HA3 HV3 HS3 HU3 c0 c1 c2 v0 v1 v2 s0 s1
  cases b4
  · go_wp2
    go_ret
    exact ⟨rfl, HU4.out⟩
  go_wp2
  go_ret
  exact ⟨rfl, HU4.out⟩

end Go.Proofs.YtoaomjdpiealfaaGreatDoor
