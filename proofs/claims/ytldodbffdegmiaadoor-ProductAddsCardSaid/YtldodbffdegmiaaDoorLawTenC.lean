/- GroupProducts: the walk. -/
import Derived.Test.YtldodbffdegmiaaDoorLawTenA
import Derived.Test.YtldodbffdegmiaaDoorExpo
import Derived.Deep.RegionHeld3
namespace Go.Proofs.YtldodbffdegmiaaDoor
open Go.RowKit Go.Sp
set_option maxHeartbeats 1000000
set_option maxRecDepth 8000

def isR (x e f want : Int) : Bool := if (f != 0) = true then e == f && x == 0 else e == 0 && x == want

theorem isR_bad {x f want : Int} (h : (f == 0) = false) (hx : x = 0) : isR x f f want = true := by
  have : f ≠ 0 := by simpa using h
  simp [isR, this, hx]
theorem isR_good {x f want : Int} (h : (f == 0) = true) (hx : x = want) : isR x f 0 want = true := by
  have : f = 0 := by simpa using h
  simp [isR, this, hx]

theorem is_any (x e f want : Int) (w : World) :
    Calls Tryd.prog 27 #[.int .i64 x, .int .i64 e, .int .i64 f, .int .i64 want] w fun r w' => r = .returned (.bool (isR x e f want)) ∧ Up w w' := by
  have HK : Hid (isR x e f want = if (f != 0) = true then e == f && x == 0 else e == 0 && x == want) := hid rfl
  generalize isR x e f want = K at *
  by_cases c1 : f = 0
  · have d1 : (f != 0) = false := by simp [c1]
    by_cases c2 : e = 0
    · have d2 : (e == 0) = true := by simp [c2]
      go_enter Tryd.func27, Tryd.ntmps27
      go_wp2
      go_ret
      exact ⟨by rw [HK.out]; simp [c1, c2], Up.refl w⟩
    · have d2 : (e == 0) = false := by simp [c2]
      go_enter Tryd.func27, Tryd.ntmps27
      go_wp2
      go_ret
      exact ⟨by rw [HK.out]; simp [c1, c2], Up.refl w⟩
  · have d1 : (f != 0) = true := by simp [c1]
    by_cases c2 : e = f
    · have d2 : (e == f) = true := by simp [c2]
      go_enter Tryd.func27, Tryd.ntmps27
      go_wp2
      go_ret
      exact ⟨by rw [HK.out]; simp [c1, c2], Up.refl w⟩
    · have d2 : (e == f) = false := by simp [c2]
      go_enter Tryd.func27, Tryd.ntmps27
      go_wp2
      go_ret
      exact ⟨by rw [HK.out]; simp [c1, c2], Up.refl w⟩

theorem rgInverse_ok (P Q G a : Int) (w : World) (h0 : 0 ≤ a) (h1 : a < P) (h4 : P < 2305843009213693952) (h5 : 2 ≤ Q) (h6 : Q < 2305843009213693952) :
    Calls Tryd.prog 28 #[grp P Q G, .int .i64 a] w fun r w' => r = .returned (.int .i64 (pw a (Q.toNat - 1) P)) ∧ Up w w' := by
  have hk : gpw P Q a (Q - 1) = pw a (Q.toNat - 1) P := by
    unfold gpw
    congr 1
    rw [Int.emod_eq_of_lt (by omega) (by omega)]; omega
  have HK := hid hk
  clear hk
  go_enter Tryd.func28, Tryd.ntmps28
  go_wp2_with fail
  refine (rgPower_ok P Q G a (Q - 1) _ h0 h1 (by omega) (by omega) h4 (by omega) h6).mono ?_
  rintro e w1 ⟨rfl, hU⟩
  rw [HK.out]
  go_wp2
  go_ret
  exact ⟨rfl, ((Up.refl w).alloc _).trans hU⟩

theorem chk_all {P Q G : Int} {xs : List Int} (h : (chkI P Q G xs == 0) = true) : gvB P Q G = true ∧ ∀ x ∈ xs, elB P Q x = true := chk_cases (by simpa using h)

theorem gMul_any (P Q G a b : Int) (w : World) (hP : -9223372036854775808 ≤ P) (hQ : Q ≤ 9223372036854775807) (hT : Tab w) :
    Calls Tryd.prog 22 #[grp P Q G, .int .i64 a, .int .i64 b] w fun e w' => e = .returned (.tuple #[.int .i64 (if chkI P Q G [a, b] = 0 then a * b % P else 0), .int .i64 (chkI P Q G [a, b])]) ∧ Up w w' := by
  by_cases h : chkI P Q G [a, b] = 0
  · obtain ⟨hg, hx⟩ := chk_cases h
    rw [if_pos h, h]
    exact gMul_ok P Q G a b w hQ hT hg (hx a (by simp)) (hx b (by simp))
  · rw [if_neg h]
    exact gMul_bad P Q G a b _ w hP hQ hT rfl (by simp [h])

theorem gInverse_any (P Q G a : Int) (w : World) (hP : -9223372036854775808 ≤ P) (hQ : Q ≤ 9223372036854775807) (hT : Tab w) :
    Calls Tryd.prog 21 #[grp P Q G, .int .i64 a] w fun e w' => e = .returned (.tuple #[.int .i64 (if chkI P Q G [a] = 0 then pw a (Q.toNat - 1) P else 0), .int .i64 (chkI P Q G [a])]) ∧ Up w w' := by
  by_cases h : chkI P Q G [a] = 0
  · obtain ⟨hg, hx⟩ := chk_cases h
    rw [if_pos h, h]
    exact gInverse_ok P Q G a w hQ hT hg (hx a (by simp))
  · rw [if_neg h]
    exact gInverse_bad P Q G a _ w hP hQ hT rfl (by simp [h])

theorem gPower_any (P Q G a k : Int) (w : World) (hP : -9223372036854775808 ≤ P) (hQ : Q ≤ 9223372036854775807) (hT : Tab w) (k0 : -9223372036854775808 ≤ k) (k1 : k ≤ 9223372036854775807) :
    Calls Tryd.prog 20 #[grp P Q G, .int .i64 a, .int .i64 k] w fun e w' => e = .returned (.tuple #[.int .i64 (if chkI P Q G [a] = 0 then gpw P Q a k else 0), .int .i64 (chkI P Q G [a])]) ∧ Up w w' := by
  by_cases h : chkI P Q G [a] = 0
  · obtain ⟨hg, hx⟩ := chk_cases h
    rw [if_pos h, h]
    exact gPower_ok P Q G a k w hQ hT hg (hx a (by simp)) k0 k1
  · rw [if_neg h]
    exact gPower_bad P Q G a k _ w hP hQ hT rfl (by simp [h])

theorem keepG {w0 w w' : World} {b : Nat} {P Q G : Int} (hU : Up w w')
    (h : w.cell? ⟨b, 0, none⟩ = some (.int .i64 P) ∧ w.cell? ⟨b, 1, none⟩ = some (.int .i64 Q) ∧ w.cell? ⟨b, 2, none⟩ = some (.int .i64 G) ∧ Hid (Up w0 w)) :
    w'.cell? ⟨b, 0, none⟩ = some (.int .i64 P) ∧ w'.cell? ⟨b, 1, none⟩ = some (.int .i64 Q) ∧ w'.cell? ⟨b, 2, none⟩ = some (.int .i64 G) ∧ Hid (Up w0 w') := by
  obtain ⟨a, b', c⟩ := GrpAt.up ⟨h.1, h.2.1, h.2.2.1⟩ hU
  exact ⟨a, b', c, hid (h.2.2.2.out.trans hU)⟩

theorem tabOf {w1 w : World} {p q r : Prop} (h : Hid (Tab w1)) (hs : p ∧ q ∧ r ∧ Hid (Up w1 w)) : Tab w := h.out.up hs.2.2.2.out

theorem upOf {w1 w : World} {p q r : Prop} (hs : p ∧ q ∧ r ∧ Hid (Up w1 w)) : Up w1 w := hs.2.2.2.out

theorem GroupProducts_walk (P Q G a b k : Int) (w : World) (hP : -9223372036854775808 ≤ P) (hQ : Q ≤ 9223372036854775807) (k0 : -9223372036854775808 ≤ k) (k1 : k ≤ 9223372036854775807) (hT : Tab w) :
    Calls Tryd.prog 4 #[grp P Q G, .int .i64 a, .int .i64 b, .int .i64 k] w fun e w' => e = .returned (.bool true) ∧ Up w w' := by
  have HT := hid hT
  clear hT
  obtain ⟨one, h1⟩ : ∃ x, chkI P Q G [a] = x := ⟨_, rfl⟩
  obtain ⟨two, h2⟩ : ∃ x, chkI P Q G [a, b] = x := ⟨_, rfl⟩
  obtain ⟨X, hX⟩ : ∃ x, (if chkI P Q G [a, b] = 0 then a * b % P else 0) = x := ⟨_, rfl⟩
  obtain ⟨Y, hY⟩ : ∃ x, (if chkI P Q G [a] = 0 then pw a (Q.toNat - 1) P else 0) = x := ⟨_, rfl⟩
  obtain ⟨Z, hZ⟩ : ∃ x, (if chkI P Q G [a] = 0 then gpw P Q a k else 0) = x := ⟨_, rfl⟩
  have H1 := hid h1
  have H2 := hid h2
  have HX := hid hX
  have HY := hid hY
  have HZ := hid hZ
  clear h1 h2 hX hY hZ
  go_enter Tryd.func4, Tryd.ntmps4
  go_wp2_with fail
  refine (awake10 _ (HT.out.up ((Up.refl w).alloc _))).mono ?_
  rintro e w1 ⟨rfl, hU1⟩
  have HG := hid (box_reads rfl hU1)
  have HU1 := hid (((Up.refl w).alloc _).trans hU1)
  have HT1 := hid (HT.out.up HU1.out)
  clear hU1
  obtain ⟨c0, c1, c2⟩ := HG.out
  go_wp2_with fail
  refine (gMul_any P Q G a b _ hP hQ (HT1.out.up (Up.refl w1))).mono ?_
  rintro e w2 ⟨rfl, hU2⟩
  have HV2 := hid ((Up.refl w1).trans hU2)
  clear hU2
  obtain ⟨c0, c1, c2⟩ := HG.out.up HV2.out
  rw [HX.out, H2.out]
  go_wp2_with fail
  refine (gInverse_any P Q G a _ hP hQ (HT1.out.up HV2.out)).mono ?_
  rintro e w3 ⟨rfl, hU3⟩
  have HV3 := hid (HV2.out.trans hU3)
  clear hU3
  obtain ⟨c0, c1, c2⟩ := HG.out.up HV3.out
  rw [HY.out, H1.out]
  go_wp2_with fail
  refine (gPower_any P Q G a k _ hP hQ (HT1.out.up HV3.out) k0 k1).mono ?_
  rintro e w4 ⟨rfl, hU4⟩
  have HV4 := hid (HV3.out.trans hU4)
  clear hU4
  obtain ⟨c0, c1, c2⟩ := HG.out.up HV4.out
  rw [HZ.out, H1.out]
  go_wp2_with fail
  have hS0 : _ ∧ _ ∧ _ ∧ Hid (Up w1 w4) := ⟨c0, c1, c2, HV4⟩
  clear c0 c1 c2
  go_cut [52] from 39 (fun v w' => v = .bool false ∧ Up w1 w')
  case first =>
    go_region_held3 (fun w' => w'.cell? ⟨w.heap.size, 0, none⟩ = some (.int .i64 P) ∧ w'.cell? ⟨w.heap.size, 1, none⟩ = some (.int .i64 Q) ∧ w'.cell? ⟨w.heap.size, 2, none⟩ = some (.int .i64 G) ∧ Hid (Up w1 w')) (first | exact keepG ((Up.refl _).drew) (by assumption) | exact keepG ((Up.refl _).alloc _) (by assumption) | exact keepG (by assumption) (by assumption)) (first
      | (go_at_call 23; refine (Valid_any P Q G _ hP hQ (tabOf HT1 (by assumption))).mono ?_; rintro e w' ⟨rfl, hU⟩)
      | (go_at_call 24; refine (rValid_any P Q G _ hP hQ).mono ?_; rintro e w' ⟨rfl, hU⟩)
      | (go_at_call 25; refine (Contains_any P Q G a _ hP hQ (tabOf HT1 (by assumption))).mono ?_; rintro e w' ⟨rfl, hU⟩)
      | (go_at_call 26; refine (rContains_any P Q G a _ hP hQ).mono ?_; rintro e w' ⟨rfl, hU⟩))
    all_goals (go_wp2_with fail; go_meet; exact ⟨rfl, upOf (by assumption)⟩)
  case rest =>
    obtain ⟨rfl, hU5⟩ := hcut
    have HV5 := hid hU5
    clear hU5 hS0
    obtain ⟨c0, c1, c2⟩ := HG.out.up HV5.out
    go_wp2_with fail
    have hS0 := And.intro c0 (And.intro c1 (And.intro c2 HV5))
    clear c0 c1 c2
    go_cut [15, 16] from 53 (fun va vb w' => va = .int .i64 one ∧ vb = .int .i64 two ∧ Up w1 w')
    case first =>
      go_region_held3 (fun w' => w'.cell? ⟨w.heap.size, 0, none⟩ = some (.int .i64 P) ∧ w'.cell? ⟨w.heap.size, 1, none⟩ = some (.int .i64 Q) ∧ w'.cell? ⟨w.heap.size, 2, none⟩ = some (.int .i64 G) ∧ Hid (Up w1 w')) (first | exact keepG ((Up.refl _).drew) (by assumption) | exact keepG ((Up.refl _).alloc _) (by assumption) | exact keepG (by assumption) (by assumption)) (first
        | (go_at_call 19; (with_reducible (show Calls _ _ #[_, .slice _ 1 _] _ _)); refine (fault_any P Q G _ [a] _ hP hQ (ints_one ?hc)).mono ?_; (case hc => go_simp); rintro e w' ⟨rfl, hU⟩; rw [H1.out]; obtain ⟨hr, hf⟩ := hU.reads)
        | (go_at_call 19; (with_reducible (show Calls _ _ #[_, .slice _ 2 _] _ _)); refine (fault_any P Q G _ [a, b] _ hP hQ (ints_two ?hc ?hd)).mono ?_; (case hc => go_simp); (case hd => go_simp); rintro e w' ⟨rfl, hU⟩; rw [H2.out]; obtain ⟨hr, hf⟩ := hU.reads))
      all_goals (go_wp2_with fail; go_meet; exact ⟨rfl, rfl, upOf (by assumption)⟩)
    case rest =>
      obtain ⟨rfl, rfl, hU6⟩ := hcut
      have HV6 := hid hU6
      clear hU6 hS0
      obtain ⟨c0, c1, c2⟩ := HG.out.up HV6.out
      by_cases hone : one = 0
      case neg =>
        have d1 : (one == 0) = false := by simp [hone]
        have d2 : (one != 0) = true := by simp [hone]
        have ht : two ≠ 0 := by
          intro h
          have h0 : chkI P Q G [a, b] = 0 := H2.out.trans h
          obtain ⟨hg, hx⟩ := chk_cases h0
          exact hone (H1.out.symm.trans (chkI_ok hg (by simp [hx a (by simp)])))
        have d3 : (two != 0) = true := by simp [ht]
        have d4 : (two == 0) = false := by simp [ht]
        have Y0 := hid (isR_bad d1 (show Y = 0 by rw [← HY.out, if_neg (by rw [H1.out]; exact hone)]) (want := 0))
        have Z0 := hid (isR_bad d1 (show Z = 0 by rw [← HZ.out, if_neg (by rw [H1.out]; exact hone)]) (want := 0))
        have X0 := hid (isR_bad d4 (show X = 0 by rw [← HX.out, if_neg (by rw [H2.out]; exact ht)]) (want := 0))
        clear hone ht
        go_wp2_with fail
        refine (is_any Y one one 0 _).mono ?_
        rintro e w7 ⟨rfl, hU7⟩
        have HV7 := hid (HV6.out.trans hU7)
        clear hU7
        obtain ⟨c0, c1, c2⟩ := HG.out.up HV7.out
        rw [Y0.out]
        go_wp2_with fail
        refine (is_any Z one one 0 _).mono ?_
        rintro e w8 ⟨rfl, hU8⟩
        have HV8 := hid (HV7.out.trans hU8)
        clear hU8
        obtain ⟨c0, c1, c2⟩ := HG.out.up HV8.out
        rw [Z0.out]
        go_wp2_with fail
        refine (is_any X two two 0 _).mono ?_
        rintro e w9 ⟨rfl, hU9⟩
        have HV9 := hid (HV8.out.trans hU9)
        clear hU9
        rw [X0.out]
        go_wp2
        go_ret
        exact ⟨rfl, HU1.out.trans HV9.out⟩
      have h0 : chkI P Q G [a] = 0 := H1.out.trans hone
      obtain ⟨hg, hx⟩ := chk_cases h0
      have ha := hx a (by simp)
      obtain ⟨a0, a1, _⟩ := el_iff.1 ha
      have hg' := gv_iff.1 hg
      have g1 := hg'.P61
      have g2 := hg'.P4
      have g3 := hg'.Q3
      have g4 := hg'.QP
      have Y0 := hid (isR_good (f := 0) (by simp) (show Y = pw a (Q.toNat - 1) P by rw [← HY.out, if_pos h0]))
      have Z0 := hid (isR_good (f := 0) (by simp) (show Z = gpw P Q a k by rw [← HZ.out, if_pos h0]))
      have Hg := hid hg
      have Ha := hid ha
      subst hone
      clear h0 hg hx ha hg'
      go_wp2_with fail
      refine (rgInverse_ok P Q G a _ (by omega) a1 g1 (by omega) (by omega)).mono ?_
      rintro e w7 ⟨rfl, hU7⟩
      have HV7 := hid (HV6.out.trans hU7)
      clear hU7
      obtain ⟨c0, c1, c2⟩ := HG.out.up HV7.out
      go_wp2_with fail
      refine (is_any Y 0 0 (pw a (Q.toNat - 1) P) _).mono ?_
      rintro e w8 ⟨rfl, hU8⟩
      have HV8 := hid (HV7.out.trans hU8)
      clear hU8
      obtain ⟨c0, c1, c2⟩ := HG.out.up HV8.out
      rw [Y0.out]
      go_wp2_with fail
      refine (rgPower_ok P Q G a k _ (by omega) a1 k0 k1 g1 (by omega) (by omega)).mono ?_
      rintro e w9 ⟨rfl, hU9⟩
      have HV9 := hid (HV8.out.trans hU9)
      clear hU9
      obtain ⟨c0, c1, c2⟩ := HG.out.up HV9.out
      go_wp2_with fail
      refine (is_any Z 0 0 (gpw P Q a k) _).mono ?_
      rintro e w10 ⟨rfl, hU10⟩
      have HV10 := hid (HV9.out.trans hU10)
      clear hU10
      obtain ⟨c0, c1, c2⟩ := HG.out.up HV10.out
      rw [Z0.out]
      by_cases ht : two = 0
      case neg =>
        have d3 : (two != 0) = true := by simp [ht]
        have d4 : (two == 0) = false := by simp [ht]
        have X0 := hid (isR_bad d4 (show X = 0 by rw [← HX.out, if_neg (by rw [H2.out]; exact ht)]) (want := 0))
        clear ht
        go_wp2_with fail
        refine (is_any X two two 0 _).mono ?_
        rintro e w11 ⟨rfl, hU11⟩
        have HV11 := hid (HV10.out.trans hU11)
        clear hU11
        rw [X0.out]
        go_wp2
        go_ret
        exact ⟨rfl, HU1.out.trans HV11.out⟩
      have h0 : chkI P Q G [a, b] = 0 := H2.out.trans ht
      obtain ⟨hg, hx⟩ := chk_cases h0
      have hb := hx b (by simp)
      obtain ⟨b0, b1, _⟩ := el_iff.1 hb
      have X0 := hid (isR_good (f := 0) (by simp) (show X = a * b % P by rw [← HX.out, if_pos h0]))
      subst ht
      clear h0 hg hx hb
      go_wp2_with fail
      refine (rgMul_ok P Q G a b _ (by omega) a1 (by omega) b1 g1).mono ?_
      rintro e w11 ⟨rfl, hU11⟩
      have HV11 := hid (HV10.out.trans hU11)
      clear hU11
      obtain ⟨c0, c1, c2⟩ := HG.out.up HV11.out
      go_wp2_with fail
      refine (is_any X 0 0 (a * b % P) _).mono ?_
      rintro e w12 ⟨rfl, hU12⟩
      have HV12 := hid (HV11.out.trans hU12)
      clear hU12
      rw [X0.out]
      go_wp2
      go_ret
      exact ⟨rfl, HU1.out.trans HV12.out⟩

end Go.Proofs.YtldodbffdegmiaaDoor
