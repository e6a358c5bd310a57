/- Offer, Answer and Blind return what the reference says, or the specified errors: specielaw23.BlindSteps returns true. For every input; the tables of packages math/bits, prime and digest as the program's text lays them. The closed facts of the row of specielaw23.BlindSteps, one by one: all at once they outgrow the memory. BlindSteps: the walk. -/
import Derived.Test.YtdlcmpbpdbpanaaGreatDoorMB30
import Derived.Test.YtdlcmpbpdbpanaaGreatDoorRows
import Derived.Test.YtdlcmpbpdbpanaaGreatDoorMB31
import Derived.JoinedCond
import Derived.KernelRfl
import Derived.Lay
namespace Go.Proofs.YtdlcmpbpdbpanaaGreatDoor
open Go.RowKit Go.Sp
set_option maxHeartbeats 4000000
set_option maxRecDepth 20000

def lng23 (n : Nat) : Bool := (decide (n > 1000) && decide (n ≤ 16384)) || decide (n > 17000)
theorem long23_any (v : Value) (m : List Int) (w : World) (hv : SeqAt .u8 w v m) : Calls Tryz.prog 43 #[v] w fun e w' => e = .returned (.bool (lng23 m.length)) ∧ Up w w' := by
  obtain ⟨va, vc, rfl, _, _⟩ := hv.shape
  obtain ⟨n, hn⟩ : ∃ n, m.length = n := ⟨_, rfl⟩
  rw [hn]
  clear hv hn
  have HL : Hid (lng23 n = ((decide (n > 1000) && decide (n ≤ 16384)) || decide (n > 17000))) := hid rfl
  rw [HL.out]
  clear HL
  by_cases h1 : n > 1000
  · have d1 : decide ((n : Int) > 1000) = true := by simp; omega
    by_cases h2 : n ≤ 16384
    · have d2 : decide ((n : Int) ≤ 16384) = true := by simp; omega
      have d3 : decide ((n : Int) > 17000) = false := by simp; omega
      rw [show ((decide (n > 1000) && decide (n ≤ 16384)) || decide (n > 17000)) = true by simp [h1, h2]]
      clear h1 h2
      go_enter Tryz.func43, Tryz.ntmps43
      go_wp2
      go_ret
      exact ⟨rfl, Up.refl w⟩
    · have d2 : decide ((n : Int) ≤ 16384) = false := by simp; omega
      by_cases h3 : n > 17000
      · have d3 : decide ((n : Int) > 17000) = true := by simp; omega
        rw [show ((decide (n > 1000) && decide (n ≤ 16384)) || decide (n > 17000)) = true by simp [h3]]
        clear h1 h2 h3
        go_enter Tryz.func43, Tryz.ntmps43
        go_wp2
        go_ret
        exact ⟨rfl, Up.refl w⟩
      · have d3 : decide ((n : Int) > 17000) = false := by simp; omega
        rw [show ((decide (n > 1000) && decide (n ≤ 16384)) || decide (n > 17000)) = false by simp [h2, h3]]
        clear h1 h2 h3
        go_enter Tryz.func43, Tryz.ntmps43
        go_wp2
        go_ret
        exact ⟨rfl, Up.refl w⟩
  · have d1 : decide ((n : Int) > 1000) = false := by simp; omega
    have d3 : decide ((n : Int) > 17000) = false := by simp; omega
    rw [show ((decide (n > 1000) && decide (n ≤ 16384)) || decide (n > 17000)) = false by simp [h1]; omega]
    clear h1
    go_enter Tryz.func43, Tryz.ntmps43
    go_wp2
    go_ret
    exact ⟨rfl, Up.refl w⟩

theorem BlindSteps_walk (P Q G y r al be k c : Int) (v : Value) (m : List Int) (w : World) (hP : -9223372036854775808 ≤ P) (hQ : Q ≤ 9223372036854775807) (hT : Tab w) (hS : TabS w) (hv : SeqAt .u8 w v m) (hm : ∀ x ∈ m, 0 ≤ x ∧ x ≤ 255) :
    Calls Tryz.prog 8 #[grp P Q G, .int .i64 y, .int .i64 r, v, .int .i64 al, .int .i64 be, .int .i64 k, .int .i64 c] w fun e w' => e = .returned (.bool true) ∧ Up w w' := by
  have HT := hid hT
  have HS := hid hS
  have HV := hid hv
  have HM := hid hm
  have M0 := hid (fun w' (hU : Up w w') => long23_any v m w' (hv.up hU))
  have M1 := hid (fun w' (hU : Up w w') => bliOffer_any P Q G k w' hP hQ (hT.up hU))
  have M2 := hid (fun w' (hU : Up w w') => bliAnswer_any P Q G al k c w' hP hQ (hT.up hU))
  have M3 := hid (fun w' (hU : Up w w') => bliBlind_any P Q G y r al be v m w' hP hQ (hT.up hU) (hS.up hU) (hv.up hU) hm)
  have M4 := hid (fun w' (hU : Up w w') hg hy hr ha hb hl => r23Blind_ok P Q G y r al be v m w' hg hy hr ha hb hl (hv.up hU) hm)
  obtain ⟨Eo, hEo⟩ : ∃ E, errE (gvB P Q G) ([k].all (exB Q)) = E := ⟨_, rfl⟩
  obtain ⟨Ea, hEa⟩ : ∃ E, errE (gvB P Q G) ([al, k, c].all (exB Q)) = E := ⟨_, rfl⟩
  obtain ⟨Eb, hEb⟩ : ∃ E, bldE P Q G y r al be m.length = E := ⟨_, rfl⟩
  obtain ⟨K, hK⟩ : ∃ K, bcm P Q G y r al be = K := ⟨_, rfl⟩
  obtain ⟨D, hD⟩ : ∃ D, sigC P Q G K y m = D := ⟨_, rfl⟩
  obtain ⟨C, hC⟩ : ∃ C, (D + be) % Q = C := ⟨_, rfl⟩
  rw [hEo] at M1
  rw [hEa] at M2
  simp only [hEb, hK, hD, hC] at M3 M4
  obtain ⟨Xo, hXo⟩ : ∃ X, orZ Eo (pwi P G k) = X := ⟨_, rfl⟩
  obtain ⟨Xa, hXa⟩ : ∃ X, orZ Ea (ansV Q al k c) = X := ⟨_, rfl⟩
  obtain ⟨U1, hU1⟩ : ∃ X, orZ Eb al = X := ⟨_, rfl⟩
  obtain ⟨U2, hU2⟩ : ∃ X, orZ Eb be = X := ⟨_, rfl⟩
  obtain ⟨U3, hU3⟩ : ∃ X, orZ Eb K = X := ⟨_, rfl⟩
  obtain ⟨U4, hU4⟩ : ∃ X, orZ Eb D = X := ⟨_, rfl⟩
  obtain ⟨U5, hU5⟩ : ∃ X, orZ Eb C = X := ⟨_, rfl⟩
  rw [hXo] at M1
  rw [hXa] at M2
  rw [hU1, hU2, hU3, hU4, hU5] at M3
  have HEo := hid hEo
  have HEa := hid hEa
  have HEb := hid hEb
  have HXo := hid hXo
  have HXa := hid hXa
  have HU1' := hid hU1
  have HU2' := hid hU2
  have HU3' := hid hU3
  have HU4' := hid hU4
  have HU5' := hid hU5
  obtain ⟨va, vc, rfl, _, _⟩ := hv.shape
  obtain ⟨n, hn⟩ : ∃ n, m.length = n := ⟨_, rfl⟩
  rw [hn] at M0 M3 M4 HEb HV ⊢
  obtain ⟨o, ho⟩ : ∃ o, w.heap.size = o := ⟨_, rfl⟩
  have HO := hid ho
  clear hT hS hv hm hn ho hEo hEa hEb hK hD hC hXo hXa hU1 hU2 hU3 hU4 hU5
  go_enter Tryz.func8, Tryz.ntmps8
  go_wp2_with fail
  refine (awake23 _ (HT.out.up ((Up.refl w).alloc _)) (HS.out.up ((Up.refl w).alloc _))).mono ?_
  rintro e w1 ⟨rfl, hU1⟩
  have HA1 := hid ((nums_three (w := w) (t := 23) HO.out).up hU1)
  have HU1 := hid (((Up.refl w).alloc _).trans hU1)
  clear hU1
  rw [HO.out]
  obtain ⟨c0, c1, c2⟩ := HA1.out
  go_wp2_with fail
  refine (M0.out _ (HU1.out)).mono ?_
  rintro e w2 ⟨rfl, hU2⟩
  have HA2 := hid (HA1.out.up hU2)
  have HU2 := hid (HU1.out.trans hU2)
  clear hU2 HA1 HU1 c0 c1 c2
  obtain ⟨c0, c1, c2⟩ := HA2.out
  by_cases hl : lng23 n = true
  case pos =>
    rw [hl]
    go_wp2_with fail
    refine (awake23 _ (HT.out.up (HU2.out)) (HS.out.up (HU2.out))).mono ?_
    rintro e w3 ⟨rfl, hU3⟩
    have HA3 := hid (HA2.out.up hU3)
    have HU3 := hid (HU2.out.trans hU3)
    clear hU3 HA2 HU2 c0 c1 c2
    go_wp2
    go_ret
    exact ⟨rfl, HU3.out⟩
  have hl' : lng23 n = false := by simpa using hl
  rw [hl']
  clear hl hl'
  go_wp2_with fail
  refine (M1.out _ (HU2.out)).mono ?_
  rintro e w3 ⟨rfl, hU3⟩
  have HA3 := hid (HA2.out.up hU3)
  have HU3 := hid (HU2.out.trans hU3)
  clear hU3 HA2 HU2 c0 c1 c2
  obtain ⟨c0, c1, c2⟩ := HA3.out
  go_wp2_with fail
  refine (M2.out _ (HU3.out)).mono ?_
  rintro e w4 ⟨rfl, hU4⟩
  have HA4 := hid (HA3.out.up hU4)
  have HU4 := hid (HU3.out.trans hU4)
  clear hU4 HA3 HU3 c0 c1 c2
  obtain ⟨c0, c1, c2⟩ := HA4.out
  go_wp2_with fail
  refine (M3.out _ (HU4.out)).mono ?_
  rintro e w5 ⟨rfl, hU5⟩
  have HA5 := hid (HA4.out.up hU5)
  have HU5 := hid (HU4.out.trans hU5)
  clear hU5 HA4 HU4 c0 c1 c2
  obtain ⟨c0, c1, c2⟩ := HA5.out
  obtain ⟨ob, hob⟩ : ∃ ob, w5.heap.size = ob := ⟨_, rfl⟩
  have lob : o < ob := by rw [← hob]; exact cell_lt c0
  go_wp2_with fail
  refine (rValid_any P Q G _ hP hQ).mono ?_
  rintro e w6 ⟨rfl, hU6⟩
  have HB6 := hid ((Blk.new (g := ob) (t := 71) (cs := #[.int .i64 U1, .int .i64 U2, .int .i64 U3, .int .i64 U4]) hob rfl).up hU6)
  have hU6 := ((Up.refl w5).alloc _).trans hU6
  have HA6 := hid (HA5.out.up hU6)
  have HU6 := hid (HU5.out.trans hU6)
  clear hU6 HA5 HU5 c0 c1 c2
  try rw [hob]
  clear hob
  obtain ⟨c0, c1, c2⟩ := HA6.out
  have u0 := HB6.out.val (i := 0) rfl
  have u1 := HB6.out.val (i := 1) rfl
  have u2 := HB6.out.val (i := 2) rfl
  have u3 := HB6.out.val (i := 3) rfl
  by_cases h : gvB P Q G = true
  case neg =>
    have h' : gvB P Q G = false := by simpa using h
    have hE1 : Eo = 1 := by rw [← HEo.out, h']; rfl
    have hx1 : Xo = 0 := by rw [← HXo.out, hE1]; rfl
    have hE2 : Ea = 1 := by rw [← HEa.out, h']; rfl
    have hx2 : Xa = 0 := by rw [← HXa.out, hE2]; rfl
    have hE : Eb = 1 := by rw [← HEb.out, bldE, h']; rfl
    rw [h']
    clear h h'
    have hu1 : U1 = 0 := by rw [← HU1'.out, hE]; rfl
    have hu2 : U2 = 0 := by rw [← HU2'.out, hE]; rfl
    have hu3 : U3 = 0 := by rw [← HU3'.out, hE]; rfl
    have hu4 : U4 = 0 := by rw [← HU4'.out, hE]; rfl
    have hu5 : U5 = 0 := by rw [← HU5'.out, hE]; rfl
    subst hE hu1 hu2 hu3 hu4 hu5
    subst hE1 hx1 hE2 hx2
    go_wp2
    go_ret
    exact ⟨rfl, HU6.out⟩
  have Hg := hid h
  have g := gv_iff.1 h
  have g1 := g.P61
  have g2 := g.P4
  have g3 := g.Q3
  have g4 := g.QP
  have g5 := g.G2
  have g6 := g.GP
  rw [h]
  clear h g
  go_wp2_with fail
  refine (r23Scalar_any P Q G k _).mono ?_
  rintro e w7 ⟨rfl, hU7⟩
  have HA7 := hid (HA6.out.up hU7)
  have HB7 := hid (HB6.out.up hU7)
  have HU7 := hid (HU6.out.trans hU7)
  clear hU7 HA6 HB6 HU6 c0 c1 c2 u0 u1 u2 u3
  obtain ⟨c0, c1, c2⟩ := HA7.out
  have u0 := HB7.out.val (i := 0) rfl
  have u1 := HB7.out.val (i := 1) rfl
  have u2 := HB7.out.val (i := 2) rfl
  have u3 := HB7.out.val (i := 3) rfl
  by_cases h : exB Q k = true
  case neg =>
    have h' : exB Q k = false := by simpa using h
    have Hk := hid h'
    have hE1 : Eo = 2 := by rw [← HEo.out, Hg.out]; simp [errE, h']
    have hx1 : Xo = 0 := by rw [← HXo.out, hE1]; rfl
    rw [h']
    subst hE1 hx1
    clear h h' HEo HXo
    go_wp2_with fail
    refine (r23Scalar_any P Q G k _).mono ?_
    rintro e w8 ⟨rfl, hU8⟩
    have HA8 := hid (HA7.out.up hU8)
    have HB8 := hid (HB7.out.up hU8)
    have HU8 := hid (HU7.out.trans hU8)
    clear hU8 HA7 HB7 HU7 c0 c1 c2 u0 u1 u2 u3
    obtain ⟨c0, c1, c2⟩ := HA8.out
    have u0 := HB8.out.val (i := 0) rfl
    have u1 := HB8.out.val (i := 1) rfl
    have u2 := HB8.out.val (i := 2) rfl
    have u3 := HB8.out.val (i := 3) rfl
    have hE2 : Ea = 2 := by rw [← HEa.out, Hg.out]; simp [errE, Hk.out]
    have hx2 : Xa = 0 := by rw [← HXa.out, hE2]; rfl
    rw [Hk.out]
    subst hE2 hx2
    clear HEa HXa
    go_wp2_with fail
    refine (rMember_any P Q G y _ g1 (by omega) hQ).mono ?_
    rintro e w9 ⟨rfl, hU9⟩
    have HA9 := hid (HA8.out.up hU9)
    have HB9 := hid (HB8.out.up hU9)
    have HU9 := hid (HU8.out.trans hU9)
    clear hU9 HA8 HB8 HU8 c0 c1 c2 u0 u1 u2 u3
    obtain ⟨c0, c1, c2⟩ := HA9.out
    have u0 := HB9.out.val (i := 0) rfl
    have u1 := HB9.out.val (i := 1) rfl
    have u2 := HB9.out.val (i := 2) rfl
    have u3 := HB9.out.val (i := 3) rfl
    by_cases h : elB P Q y = true
    case neg =>
      have h' : elB P Q y = false := by simpa using h
      have hE : Eb = 2 := by rw [← HEb.out, bldE, Hg.out]; simp [blE, conB, Hg.out, h']
      rw [h']
      clear h h'
      have hu1 : U1 = 0 := by rw [← HU1'.out, hE]; rfl
      have hu2 : U2 = 0 := by rw [← HU2'.out, hE]; rfl
      have hu3 : U3 = 0 := by rw [← HU3'.out, hE]; rfl
      have hu4 : U4 = 0 := by rw [← HU4'.out, hE]; rfl
      have hu5 : U5 = 0 := by rw [← HU5'.out, hE]; rfl
      subst hE hu1 hu2 hu3 hu4 hu5
      go_wp2
      go_ret
      exact ⟨rfl, HU9.out⟩
    have Hy := hid h
    rw [h]
    clear h
    go_wp2_with fail
    refine (rMember_any P Q G r _ g1 (by omega) hQ).mono ?_
    rintro e w10 ⟨rfl, hU10⟩
    have HA10 := hid (HA9.out.up hU10)
    have HB10 := hid (HB9.out.up hU10)
    have HU10 := hid (HU9.out.trans hU10)
    clear hU10 HA9 HB9 HU9 c0 c1 c2 u0 u1 u2 u3
    obtain ⟨c0, c1, c2⟩ := HA10.out
    have u0 := HB10.out.val (i := 0) rfl
    have u1 := HB10.out.val (i := 1) rfl
    have u2 := HB10.out.val (i := 2) rfl
    have u3 := HB10.out.val (i := 3) rfl
    by_cases h : elB P Q r = true
    case neg =>
      have h' : elB P Q r = false := by simpa using h
      have hE : Eb = 2 := by rw [← HEb.out, bldE, Hg.out]; simp [blE, conB, Hg.out, h']
      rw [h']
      clear h h'
      have hu1 : U1 = 0 := by rw [← HU1'.out, hE]; rfl
      have hu2 : U2 = 0 := by rw [← HU2'.out, hE]; rfl
      have hu3 : U3 = 0 := by rw [← HU3'.out, hE]; rfl
      have hu4 : U4 = 0 := by rw [← HU4'.out, hE]; rfl
      have hu5 : U5 = 0 := by rw [← HU5'.out, hE]; rfl
      subst hE hu1 hu2 hu3 hu4 hu5
      go_wp2
      go_ret
      exact ⟨rfl, HU10.out⟩
    have Hr := hid h
    rw [h]
    clear h
    go_wp2_with fail
    refine (r23Scalar_any P Q G al _).mono ?_
    rintro e w11 ⟨rfl, hU11⟩
    have HA11 := hid (HA10.out.up hU11)
    have HB11 := hid (HB10.out.up hU11)
    have HU11 := hid (HU10.out.trans hU11)
    clear hU11 HA10 HB10 HU10 c0 c1 c2 u0 u1 u2 u3
    obtain ⟨c0, c1, c2⟩ := HA11.out
    have u0 := HB11.out.val (i := 0) rfl
    have u1 := HB11.out.val (i := 1) rfl
    have u2 := HB11.out.val (i := 2) rfl
    have u3 := HB11.out.val (i := 3) rfl
    by_cases h : exB Q al = true
    case neg =>
      have h' : exB Q al = false := by simpa using h
      have hE : Eb = 2 := by rw [← HEb.out, bldE, Hg.out]; simp [blE, conB, Hg.out, h']
      rw [h']
      clear h h'
      have hu1 : U1 = 0 := by rw [← HU1'.out, hE]; rfl
      have hu2 : U2 = 0 := by rw [← HU2'.out, hE]; rfl
      have hu3 : U3 = 0 := by rw [← HU3'.out, hE]; rfl
      have hu4 : U4 = 0 := by rw [← HU4'.out, hE]; rfl
      have hu5 : U5 = 0 := by rw [← HU5'.out, hE]; rfl
      subst hE hu1 hu2 hu3 hu4 hu5
      go_wp2
      go_ret
      exact ⟨rfl, HU11.out⟩
    have Ha := hid h
    rw [h]
    clear h
    go_wp2_with fail
    refine (r23Scalar_any P Q G be _).mono ?_
    rintro e w12 ⟨rfl, hU12⟩
    have HA12 := hid (HA11.out.up hU12)
    have HB12 := hid (HB11.out.up hU12)
    have HU12 := hid (HU11.out.trans hU12)
    clear hU12 HA11 HB11 HU11 c0 c1 c2 u0 u1 u2 u3
    obtain ⟨c0, c1, c2⟩ := HA12.out
    have u0 := HB12.out.val (i := 0) rfl
    have u1 := HB12.out.val (i := 1) rfl
    have u2 := HB12.out.val (i := 2) rfl
    have u3 := HB12.out.val (i := 3) rfl
    by_cases h : exB Q be = true
    case neg =>
      have h' : exB Q be = false := by simpa using h
      have hE : Eb = 2 := by rw [← HEb.out, bldE, Hg.out]; simp [blE, conB, Hg.out, h']
      rw [h']
      clear h h'
      have hu1 : U1 = 0 := by rw [← HU1'.out, hE]; rfl
      have hu2 : U2 = 0 := by rw [← HU2'.out, hE]; rfl
      have hu3 : U3 = 0 := by rw [← HU3'.out, hE]; rfl
      have hu4 : U4 = 0 := by rw [← HU4'.out, hE]; rfl
      have hu5 : U5 = 0 := by rw [← HU5'.out, hE]; rfl
      subst hE hu1 hu2 hu3 hu4 hu5
      go_wp2
      go_ret
      exact ⟨rfl, HU12.out⟩
    have Hb := hid h
    rw [h]
    clear h
    by_cases h : n > 16384
    case pos =>
      have dl : decide ((n : Int) > 16384) = true := by simp; omega
      have hE : Eb = 5 := by rw [← HEb.out, bldE, Hg.out]; simp [blE, conB, Hg.out, Hy.out, Hr.out, Ha.out, Hb.out]; omega
      clear h
      have hu1 : U1 = 0 := by rw [← HU1'.out, hE]; rfl
      have hu2 : U2 = 0 := by rw [← HU2'.out, hE]; rfl
      have hu3 : U3 = 0 := by rw [← HU3'.out, hE]; rfl
      have hu4 : U4 = 0 := by rw [← HU4'.out, hE]; rfl
      have hu5 : U5 = 0 := by rw [← HU5'.out, hE]; rfl
      subst hE hu1 hu2 hu3 hu4 hu5
      go_wp2
      go_ret
      exact ⟨rfl, HU12.out⟩
    have dl : decide ((n : Int) > 16384) = false := by simp; omega
    have hE : Eb = 0 := by rw [← HEb.out, bldE, Hg.out]; simp [blE, conB, Hg.out, Hy.out, Hr.out, Ha.out, Hb.out]; omega
    have hu1 : U1 = al := by rw [← HU1'.out, hE]; rfl
    have hu2 : U2 = be := by rw [← HU2'.out, hE]; rfl
    have hu3 : U3 = K := by rw [← HU3'.out, hE]; rfl
    have hu4 : U4 = D := by rw [← HU4'.out, hE]; rfl
    have hu5 : U5 = C := by rw [← HU5'.out, hE]; rfl
    have N4 := hid (fun w' hU => M4.out w' hU Hg.out Hy.out Hr.out Ha.out Hb.out (by omega))
    subst hE hu1 hu2 hu3 hu4 hu5
    clear h M4 HEb HU1' HU2' HU3' HU4' HU5'
    have eC : (U5 == U5) = true := by simp
    go_wp2_with fail
    refine (N4.out _ (HU12.out)).mono ?_
    rintro e w13 ⟨rfl, hU13⟩
    have HA13 := hid (HA12.out.up hU13)
    have HB13 := hid (HB12.out.up hU13)
    have HU13 := hid (HU12.out.trans hU13)
    clear hU13 HA12 HB12 HU12 c0 c1 c2 u0 u1 u2 u3
    obtain ⟨c0, c1, c2⟩ := HA13.out
    have u0 := HB13.out.val (i := 0) rfl
    have u1 := HB13.out.val (i := 1) rfl
    have u2 := HB13.out.val (i := 2) rfl
    have u3 := HB13.out.val (i := 3) rfl
    obtain ⟨oz, hoz⟩ : ∃ oz, w13.heap.size = oz := ⟨_, rfl⟩
    have loz : o < oz := by rw [← hoz]; exact cell_lt c0
    have luz : ob < oz := by rw [← hoz]; exact cell_lt u0
    go_wp2
    go_ret
    exact ⟨rfl, HU13.out.alloc _⟩
  have Hk := hid h
  have hE1 : Eo = 0 := by rw [← HEo.out, Hg.out]; simp [errE, h]
  have hx1 : Xo = pwi P G k := by rw [← HXo.out, hE1]; rfl
  have R0 := hid (fun w' => rgPower_sc P Q G G k w' (by omega) g6 (exB_iff.1 h).1 (exB_iff.1 h).2 g1 (by omega))
  rw [h]
  subst hE1
  generalize pwi P G k = Y at *
  subst hx1
  have eY : (Xo != Xo) = false := by simp
  clear h HEo HXo
  go_wp2_with fail
  refine (R0.out _).mono ?_
  rintro e w8 ⟨rfl, hU8⟩
  have HA8 := hid (HA7.out.up hU8)
  have HB8 := hid (HB7.out.up hU8)
  have HU8 := hid (HU7.out.trans hU8)
  clear hU8 HA7 HB7 HU7 c0 c1 c2 u0 u1 u2 u3
  obtain ⟨c0, c1, c2⟩ := HA8.out
  have u0 := HB8.out.val (i := 0) rfl
  have u1 := HB8.out.val (i := 1) rfl
  have u2 := HB8.out.val (i := 2) rfl
  have u3 := HB8.out.val (i := 3) rfl
  go_wp2_with fail
  refine (r23Scalar_any P Q G k _).mono ?_
  rintro e w9 ⟨rfl, hU9⟩
  have HA9 := hid (HA8.out.up hU9)
  have HB9 := hid (HB8.out.up hU9)
  have HU9 := hid (HU8.out.trans hU9)
  clear hU9 HA8 HB8 HU8 c0 c1 c2 u0 u1 u2 u3
  obtain ⟨c0, c1, c2⟩ := HA9.out
  have u0 := HB9.out.val (i := 0) rfl
  have u1 := HB9.out.val (i := 1) rfl
  have u2 := HB9.out.val (i := 2) rfl
  have u3 := HB9.out.val (i := 3) rfl
  rw [Hk.out]
  go_wp2_with fail
  refine (r23Scalar_any P Q G c _).mono ?_
  rintro e w10 ⟨rfl, hU10⟩
  have HA10 := hid (HA9.out.up hU10)
  have HB10 := hid (HB9.out.up hU10)
  have HU10 := hid (HU9.out.trans hU10)
  clear hU10 HA9 HB9 HU9 c0 c1 c2 u0 u1 u2 u3
  obtain ⟨c0, c1, c2⟩ := HA10.out
  have u0 := HB10.out.val (i := 0) rfl
  have u1 := HB10.out.val (i := 1) rfl
  have u2 := HB10.out.val (i := 2) rfl
  have u3 := HB10.out.val (i := 3) rfl
  by_cases h : exB Q c = true
  case neg =>
    have h' : exB Q c = false := by simpa using h
    have hE2 : Ea = 2 := by rw [← HEa.out, Hg.out]; simp [errE, h']
    have hx2 : Xa = 0 := by rw [← HXa.out, hE2]; rfl
    rw [h']
    subst hE2 hx2
    clear h h' HEa HXa
    go_wp2_with fail
    refine (rMember_any P Q G y _ g1 (by omega) hQ).mono ?_
    rintro e w11 ⟨rfl, hU11⟩
    have HA11 := hid (HA10.out.up hU11)
    have HB11 := hid (HB10.out.up hU11)
    have HU11 := hid (HU10.out.trans hU11)
    clear hU11 HA10 HB10 HU10 c0 c1 c2 u0 u1 u2 u3
    obtain ⟨c0, c1, c2⟩ := HA11.out
    have u0 := HB11.out.val (i := 0) rfl
    have u1 := HB11.out.val (i := 1) rfl
    have u2 := HB11.out.val (i := 2) rfl
    have u3 := HB11.out.val (i := 3) rfl
    by_cases h : elB P Q y = true
    case neg =>
      have h' : elB P Q y = false := by simpa using h
      have hE : Eb = 2 := by rw [← HEb.out, bldE, Hg.out]; simp [blE, conB, Hg.out, h']
      rw [h']
      clear h h'
      have hu1 : U1 = 0 := by rw [← HU1'.out, hE]; rfl
      have hu2 : U2 = 0 := by rw [← HU2'.out, hE]; rfl
      have hu3 : U3 = 0 := by rw [← HU3'.out, hE]; rfl
      have hu4 : U4 = 0 := by rw [← HU4'.out, hE]; rfl
      have hu5 : U5 = 0 := by rw [← HU5'.out, hE]; rfl
      subst hE hu1 hu2 hu3 hu4 hu5
      go_wp2
      go_ret
      exact ⟨rfl, HU11.out⟩
    have Hy := hid h
    rw [h]
    clear h
    go_wp2_with fail
    refine (rMember_any P Q G r _ g1 (by omega) hQ).mono ?_
    rintro e w12 ⟨rfl, hU12⟩
    have HA12 := hid (HA11.out.up hU12)
    have HB12 := hid (HB11.out.up hU12)
    have HU12 := hid (HU11.out.trans hU12)
    clear hU12 HA11 HB11 HU11 c0 c1 c2 u0 u1 u2 u3
    obtain ⟨c0, c1, c2⟩ := HA12.out
    have u0 := HB12.out.val (i := 0) rfl
    have u1 := HB12.out.val (i := 1) rfl
    have u2 := HB12.out.val (i := 2) rfl
    have u3 := HB12.out.val (i := 3) rfl
    by_cases h : elB P Q r = true
    case neg =>
      have h' : elB P Q r = false := by simpa using h
      have hE : Eb = 2 := by rw [← HEb.out, bldE, Hg.out]; simp [blE, conB, Hg.out, h']
      rw [h']
      clear h h'
      have hu1 : U1 = 0 := by rw [← HU1'.out, hE]; rfl
      have hu2 : U2 = 0 := by rw [← HU2'.out, hE]; rfl
      have hu3 : U3 = 0 := by rw [← HU3'.out, hE]; rfl
      have hu4 : U4 = 0 := by rw [← HU4'.out, hE]; rfl
      have hu5 : U5 = 0 := by rw [← HU5'.out, hE]; rfl
      subst hE hu1 hu2 hu3 hu4 hu5
      go_wp2
      go_ret
      exact ⟨rfl, HU12.out⟩
    have Hr := hid h
    rw [h]
    clear h
    go_wp2_with fail
    refine (r23Scalar_any P Q G al _).mono ?_
    rintro e w13 ⟨rfl, hU13⟩
    have HA13 := hid (HA12.out.up hU13)
    have HB13 := hid (HB12.out.up hU13)
    have HU13 := hid (HU12.out.trans hU13)
    clear hU13 HA12 HB12 HU12 c0 c1 c2 u0 u1 u2 u3
    obtain ⟨c0, c1, c2⟩ := HA13.out
    have u0 := HB13.out.val (i := 0) rfl
    have u1 := HB13.out.val (i := 1) rfl
    have u2 := HB13.out.val (i := 2) rfl
    have u3 := HB13.out.val (i := 3) rfl
    by_cases h : exB Q al = true
    case neg =>
      have h' : exB Q al = false := by simpa using h
      have hE : Eb = 2 := by rw [← HEb.out, bldE, Hg.out]; simp [blE, conB, Hg.out, h']
      rw [h']
      clear h h'
      have hu1 : U1 = 0 := by rw [← HU1'.out, hE]; rfl
      have hu2 : U2 = 0 := by rw [← HU2'.out, hE]; rfl
      have hu3 : U3 = 0 := by rw [← HU3'.out, hE]; rfl
      have hu4 : U4 = 0 := by rw [← HU4'.out, hE]; rfl
      have hu5 : U5 = 0 := by rw [← HU5'.out, hE]; rfl
      subst hE hu1 hu2 hu3 hu4 hu5
      go_wp2
      go_ret
      exact ⟨rfl, HU13.out⟩
    have Ha := hid h
    rw [h]
    clear h
    go_wp2_with fail
    refine (r23Scalar_any P Q G be _).mono ?_
    rintro e w14 ⟨rfl, hU14⟩
    have HA14 := hid (HA13.out.up hU14)
    have HB14 := hid (HB13.out.up hU14)
    have HU14 := hid (HU13.out.trans hU14)
    clear hU14 HA13 HB13 HU13 c0 c1 c2 u0 u1 u2 u3
    obtain ⟨c0, c1, c2⟩ := HA14.out
    have u0 := HB14.out.val (i := 0) rfl
    have u1 := HB14.out.val (i := 1) rfl
    have u2 := HB14.out.val (i := 2) rfl
    have u3 := HB14.out.val (i := 3) rfl
    by_cases h : exB Q be = true
    case neg =>
      have h' : exB Q be = false := by simpa using h
      have hE : Eb = 2 := by rw [← HEb.out, bldE, Hg.out]; simp [blE, conB, Hg.out, h']
      rw [h']
      clear h h'
      have hu1 : U1 = 0 := by rw [← HU1'.out, hE]; rfl
      have hu2 : U2 = 0 := by rw [← HU2'.out, hE]; rfl
      have hu3 : U3 = 0 := by rw [← HU3'.out, hE]; rfl
      have hu4 : U4 = 0 := by rw [← HU4'.out, hE]; rfl
      have hu5 : U5 = 0 := by rw [← HU5'.out, hE]; rfl
      subst hE hu1 hu2 hu3 hu4 hu5
      go_wp2
      go_ret
      exact ⟨rfl, HU14.out⟩
    have Hb := hid h
    rw [h]
    clear h
    by_cases h : n > 16384
    case pos =>
      have dl : decide ((n : Int) > 16384) = true := by simp; omega
      have hE : Eb = 5 := by rw [← HEb.out, bldE, Hg.out]; simp [blE, conB, Hg.out, Hy.out, Hr.out, Ha.out, Hb.out]; omega
      clear h
      have hu1 : U1 = 0 := by rw [← HU1'.out, hE]; rfl
      have hu2 : U2 = 0 := by rw [← HU2'.out, hE]; rfl
      have hu3 : U3 = 0 := by rw [← HU3'.out, hE]; rfl
      have hu4 : U4 = 0 := by rw [← HU4'.out, hE]; rfl
      have hu5 : U5 = 0 := by rw [← HU5'.out, hE]; rfl
      subst hE hu1 hu2 hu3 hu4 hu5
      go_wp2
      go_ret
      exact ⟨rfl, HU14.out⟩
    have dl : decide ((n : Int) > 16384) = false := by simp; omega
    have hE : Eb = 0 := by rw [← HEb.out, bldE, Hg.out]; simp [blE, conB, Hg.out, Hy.out, Hr.out, Ha.out, Hb.out]; omega
    have hu1 : U1 = al := by rw [← HU1'.out, hE]; rfl
    have hu2 : U2 = be := by rw [← HU2'.out, hE]; rfl
    have hu3 : U3 = K := by rw [← HU3'.out, hE]; rfl
    have hu4 : U4 = D := by rw [← HU4'.out, hE]; rfl
    have hu5 : U5 = C := by rw [← HU5'.out, hE]; rfl
    have N4 := hid (fun w' hU => M4.out w' hU Hg.out Hy.out Hr.out Ha.out Hb.out (by omega))
    subst hE hu1 hu2 hu3 hu4 hu5
    clear h M4 HEb HU1' HU2' HU3' HU4' HU5'
    have eC : (U5 == U5) = true := by simp
    go_wp2_with fail
    refine (N4.out _ (HU14.out)).mono ?_
    rintro e w15 ⟨rfl, hU15⟩
    have HA15 := hid (HA14.out.up hU15)
    have HB15 := hid (HB14.out.up hU15)
    have HU15 := hid (HU14.out.trans hU15)
    clear hU15 HA14 HB14 HU14 c0 c1 c2 u0 u1 u2 u3
    obtain ⟨c0, c1, c2⟩ := HA15.out
    have u0 := HB15.out.val (i := 0) rfl
    have u1 := HB15.out.val (i := 1) rfl
    have u2 := HB15.out.val (i := 2) rfl
    have u3 := HB15.out.val (i := 3) rfl
    obtain ⟨oz, hoz⟩ : ∃ oz, w15.heap.size = oz := ⟨_, rfl⟩
    have loz : o < oz := by rw [← hoz]; exact cell_lt c0
    have luz : ob < oz := by rw [← hoz]; exact cell_lt u0
    go_wp2
    go_ret
    exact ⟨rfl, HU15.out.alloc _⟩
  have Hc := hid h
  rw [h]
  clear h
  go_wp2_with fail
  refine (r23Scalar_any P Q G al _).mono ?_
  rintro e w11 ⟨rfl, hU11⟩
  have HA11 := hid (HA10.out.up hU11)
  have HB11 := hid (HB10.out.up hU11)
  have HU11 := hid (HU10.out.trans hU11)
  clear hU11 HA10 HB10 HU10 c0 c1 c2 u0 u1 u2 u3
  obtain ⟨c0, c1, c2⟩ := HA11.out
  have u0 := HB11.out.val (i := 0) rfl
  have u1 := HB11.out.val (i := 1) rfl
  have u2 := HB11.out.val (i := 2) rfl
  have u3 := HB11.out.val (i := 3) rfl
  by_cases h : exB Q al = true
  case neg =>
    have h' : exB Q al = false := by simpa using h
    have hE2 : Ea = 2 := by rw [← HEa.out, Hg.out]; simp [errE, h']
    have hx2 : Xa = 0 := by rw [← HXa.out, hE2]; rfl
    rw [h']
    subst hE2 hx2
    clear h h' HEa HXa
    go_wp2_with fail
    refine (rMember_any P Q G y _ g1 (by omega) hQ).mono ?_
    rintro e w12 ⟨rfl, hU12⟩
    have HA12 := hid (HA11.out.up hU12)
    have HB12 := hid (HB11.out.up hU12)
    have HU12 := hid (HU11.out.trans hU12)
    clear hU12 HA11 HB11 HU11 c0 c1 c2 u0 u1 u2 u3
    obtain ⟨c0, c1, c2⟩ := HA12.out
    have u0 := HB12.out.val (i := 0) rfl
    have u1 := HB12.out.val (i := 1) rfl
    have u2 := HB12.out.val (i := 2) rfl
    have u3 := HB12.out.val (i := 3) rfl
    by_cases h : elB P Q y = true
    case neg =>
      have h' : elB P Q y = false := by simpa using h
      have hE : Eb = 2 := by rw [← HEb.out, bldE, Hg.out]; simp [blE, conB, Hg.out, h']
      rw [h']
      clear h h'
      have hu1 : U1 = 0 := by rw [← HU1'.out, hE]; rfl
      have hu2 : U2 = 0 := by rw [← HU2'.out, hE]; rfl
      have hu3 : U3 = 0 := by rw [← HU3'.out, hE]; rfl
      have hu4 : U4 = 0 := by rw [← HU4'.out, hE]; rfl
      have hu5 : U5 = 0 := by rw [← HU5'.out, hE]; rfl
      subst hE hu1 hu2 hu3 hu4 hu5
      go_wp2
      go_ret
      exact ⟨rfl, HU12.out⟩
    have Hy := hid h
    rw [h]
    clear h
    go_wp2_with fail
    refine (rMember_any P Q G r _ g1 (by omega) hQ).mono ?_
    rintro e w13 ⟨rfl, hU13⟩
    have HA13 := hid (HA12.out.up hU13)
    have HB13 := hid (HB12.out.up hU13)
    have HU13 := hid (HU12.out.trans hU13)
    clear hU13 HA12 HB12 HU12 c0 c1 c2 u0 u1 u2 u3
    obtain ⟨c0, c1, c2⟩ := HA13.out
    have u0 := HB13.out.val (i := 0) rfl
    have u1 := HB13.out.val (i := 1) rfl
    have u2 := HB13.out.val (i := 2) rfl
    have u3 := HB13.out.val (i := 3) rfl
    by_cases h : elB P Q r = true
    case neg =>
      have h' : elB P Q r = false := by simpa using h
      have hE : Eb = 2 := by rw [← HEb.out, bldE, Hg.out]; simp [blE, conB, Hg.out, h']
      rw [h']
      clear h h'
      have hu1 : U1 = 0 := by rw [← HU1'.out, hE]; rfl
      have hu2 : U2 = 0 := by rw [← HU2'.out, hE]; rfl
      have hu3 : U3 = 0 := by rw [← HU3'.out, hE]; rfl
      have hu4 : U4 = 0 := by rw [← HU4'.out, hE]; rfl
      have hu5 : U5 = 0 := by rw [← HU5'.out, hE]; rfl
      subst hE hu1 hu2 hu3 hu4 hu5
      go_wp2
      go_ret
      exact ⟨rfl, HU13.out⟩
    have Hr := hid h
    rw [h]
    clear h
    go_wp2_with fail
    refine (r23Scalar_any P Q G al _).mono ?_
    rintro e w14 ⟨rfl, hU14⟩
    have HA14 := hid (HA13.out.up hU14)
    have HB14 := hid (HB13.out.up hU14)
    have HU14 := hid (HU13.out.trans hU14)
    clear hU14 HA13 HB13 HU13 c0 c1 c2 u0 u1 u2 u3
    obtain ⟨c0, c1, c2⟩ := HA14.out
    have u0 := HB14.out.val (i := 0) rfl
    have u1 := HB14.out.val (i := 1) rfl
    have u2 := HB14.out.val (i := 2) rfl
    have u3 := HB14.out.val (i := 3) rfl
    by_cases h : exB Q al = true
    case neg =>
      have h' : exB Q al = false := by simpa using h
      have hE : Eb = 2 := by rw [← HEb.out, bldE, Hg.out]; simp [blE, conB, Hg.out, h']
      rw [h']
      clear h h'
      have hu1 : U1 = 0 := by rw [← HU1'.out, hE]; rfl
      have hu2 : U2 = 0 := by rw [← HU2'.out, hE]; rfl
      have hu3 : U3 = 0 := by rw [← HU3'.out, hE]; rfl
      have hu4 : U4 = 0 := by rw [← HU4'.out, hE]; rfl
      have hu5 : U5 = 0 := by rw [← HU5'.out, hE]; rfl
      subst hE hu1 hu2 hu3 hu4 hu5
      go_wp2
      go_ret
      exact ⟨rfl, HU14.out⟩
    have Ha := hid h
    rw [h]
    clear h
    go_wp2_with fail
    refine (r23Scalar_any P Q G be _).mono ?_
    rintro e w15 ⟨rfl, hU15⟩
    have HA15 := hid (HA14.out.up hU15)
    have HB15 := hid (HB14.out.up hU15)
    have HU15 := hid (HU14.out.trans hU15)
    clear hU15 HA14 HB14 HU14 c0 c1 c2 u0 u1 u2 u3
    obtain ⟨c0, c1, c2⟩ := HA15.out
    have u0 := HB15.out.val (i := 0) rfl
    have u1 := HB15.out.val (i := 1) rfl
    have u2 := HB15.out.val (i := 2) rfl
    have u3 := HB15.out.val (i := 3) rfl
    by_cases h : exB Q be = true
    case neg =>
      have h' : exB Q be = false := by simpa using h
      have hE : Eb = 2 := by rw [← HEb.out, bldE, Hg.out]; simp [blE, conB, Hg.out, h']
      rw [h']
      clear h h'
      have hu1 : U1 = 0 := by rw [← HU1'.out, hE]; rfl
      have hu2 : U2 = 0 := by rw [← HU2'.out, hE]; rfl
      have hu3 : U3 = 0 := by rw [← HU3'.out, hE]; rfl
      have hu4 : U4 = 0 := by rw [← HU4'.out, hE]; rfl
      have hu5 : U5 = 0 := by rw [← HU5'.out, hE]; rfl
      subst hE hu1 hu2 hu3 hu4 hu5
      go_wp2
      go_ret
      exact ⟨rfl, HU15.out⟩
    have Hb := hid h
    rw [h]
    clear h
    by_cases h : n > 16384
    case pos =>
      have dl : decide ((n : Int) > 16384) = true := by simp; omega
      have hE : Eb = 5 := by rw [← HEb.out, bldE, Hg.out]; simp [blE, conB, Hg.out, Hy.out, Hr.out, Ha.out, Hb.out]; omega
      clear h
      have hu1 : U1 = 0 := by rw [← HU1'.out, hE]; rfl
      have hu2 : U2 = 0 := by rw [← HU2'.out, hE]; rfl
      have hu3 : U3 = 0 := by rw [← HU3'.out, hE]; rfl
      have hu4 : U4 = 0 := by rw [← HU4'.out, hE]; rfl
      have hu5 : U5 = 0 := by rw [← HU5'.out, hE]; rfl
      subst hE hu1 hu2 hu3 hu4 hu5
      go_wp2
      go_ret
      exact ⟨rfl, HU15.out⟩
    have dl : decide ((n : Int) > 16384) = false := by simp; omega
    have hE : Eb = 0 := by rw [← HEb.out, bldE, Hg.out]; simp [blE, conB, Hg.out, Hy.out, Hr.out, Ha.out, Hb.out]; omega
    have hu1 : U1 = al := by rw [← HU1'.out, hE]; rfl
    have hu2 : U2 = be := by rw [← HU2'.out, hE]; rfl
    have hu3 : U3 = K := by rw [← HU3'.out, hE]; rfl
    have hu4 : U4 = D := by rw [← HU4'.out, hE]; rfl
    have hu5 : U5 = C := by rw [← HU5'.out, hE]; rfl
    have N4 := hid (fun w' hU => M4.out w' hU Hg.out Hy.out Hr.out Ha.out Hb.out (by omega))
    subst hE hu1 hu2 hu3 hu4 hu5
    clear h M4 HEb HU1' HU2' HU3' HU4' HU5'
    have eC : (U5 == U5) = true := by simp
    go_wp2_with fail
    refine (N4.out _ (HU15.out)).mono ?_
    rintro e w16 ⟨rfl, hU16⟩
    have HA16 := hid (HA15.out.up hU16)
    have HB16 := hid (HB15.out.up hU16)
    have HU16 := hid (HU15.out.trans hU16)
    clear hU16 HA15 HB15 HU15 c0 c1 c2 u0 u1 u2 u3
    obtain ⟨c0, c1, c2⟩ := HA16.out
    have u0 := HB16.out.val (i := 0) rfl
    have u1 := HB16.out.val (i := 1) rfl
    have u2 := HB16.out.val (i := 2) rfl
    have u3 := HB16.out.val (i := 3) rfl
    obtain ⟨oz, hoz⟩ : ∃ oz, w16.heap.size = oz := ⟨_, rfl⟩
    have loz : o < oz := by rw [← hoz]; exact cell_lt c0
    have luz : ob < oz := by rw [← hoz]; exact cell_lt u0
    go_wp2
    go_ret
    exact ⟨rfl, HU16.out.alloc _⟩
  have Hal := hid h
  rw [h]
  clear h
  have hE2 : Ea = 0 := by rw [← HEa.out, Hg.out]; simp [errE, Hk.out, Hc.out, Hal.out]
  have hx2 : Xa = ansV Q al k c := by rw [← HXa.out, hE2]; rfl
  obtain ⟨k0, k1⟩ := exB_iff.1 Hk.out
  obtain ⟨d0, d1⟩ := exB_iff.1 Hc.out
  obtain ⟨e0, e1⟩ := exB_iff.1 Hal.out
  have R1 := hid (fun w' => rMul_ok c al Q w' d0 d1 e0 e1 (by omega))
  have z0 := Int.emod_nonneg (c * al) (show Q ≠ 0 by omega)
  have z1 := Int.emod_lt_of_pos (c * al) (show 0 < Q by omega)
  have R2 := hid (fun w' => rReduce_ok (k + c * al % Q) Q w' (by omega) (by omega) (by omega) (by omega))
  have hw : IntKind.i64.wrap (k + c * al % Q) = k + c * al % Q := by rw [IntKind.wrap_i64]; omega
  rw [show ansV Q al k c = (k + c * al % Q) % Q from rfl] at hx2
  subst hE2
  generalize c * al % Q = Z at *
  generalize (k + Z) % Q = Z2 at *
  subst hx2
  have eZ : (Xa != Xa) = false := by simp
  clear HEa HXa k0 k1 d0 d1 e0 e1 z0 z1
  have fc0 := cellF c0
  have fc1 := cellF c1
  have fc2 := cellF c2
  have fu0 := cellF u0
  have fu1 := cellF u1
  have fu2 := cellF u2
  have fu3 := cellF u3
  clear c0 c1 c2 u0 u1 u2 u3
  go_wp2_with fail
  refine wp_region_up (by kernel_rfl) (by kernel_rfl) ?_
  repeat (go_big_quiet_step ((first
      | (go_at_call 49; exact Calls.up_same (R1.out _))
      | (go_at_call 48; exact Calls.up_same (R2.out _)))))
  refine wpQuiet_nil ?_
  rintro w12 ⟨⟨_, hU12⟩, rfl⟩
  try dsimp only
  have HA12 := hid (HA11.out.up hU12)
  have HB12 := hid (HB11.out.up hU12)
  have HU12 := hid (HU11.out.trans hU12)
  clear hU12 HA11 HB11 HU11 fc0 fc1 fc2 fu0 fu1 fu2 fu3
  obtain ⟨c0, c1, c2⟩ := HA12.out
  have u0 := HB12.out.val (i := 0) rfl
  have u1 := HB12.out.val (i := 1) rfl
  have u2 := HB12.out.val (i := 2) rfl
  have u3 := HB12.out.val (i := 3) rfl
  go_wp2_with fail
  refine (rMember_any P Q G y _ g1 (by omega) hQ).mono ?_
  rintro e w13 ⟨rfl, hU13⟩
  have HA13 := hid (HA12.out.up hU13)
  have HB13 := hid (HB12.out.up hU13)
  have HU13 := hid (HU12.out.trans hU13)
  clear hU13 HA12 HB12 HU12 c0 c1 c2 u0 u1 u2 u3
  obtain ⟨c0, c1, c2⟩ := HA13.out
  have u0 := HB13.out.val (i := 0) rfl
  have u1 := HB13.out.val (i := 1) rfl
  have u2 := HB13.out.val (i := 2) rfl
  have u3 := HB13.out.val (i := 3) rfl
  by_cases h : elB P Q y = true
  case neg =>
    have h' : elB P Q y = false := by simpa using h
    have hE : Eb = 2 := by rw [← HEb.out, bldE, Hg.out]; simp [blE, conB, Hg.out, h']
    rw [h']
    clear h h'
    have hu1 : U1 = 0 := by rw [← HU1'.out, hE]; rfl
    have hu2 : U2 = 0 := by rw [← HU2'.out, hE]; rfl
    have hu3 : U3 = 0 := by rw [← HU3'.out, hE]; rfl
    have hu4 : U4 = 0 := by rw [← HU4'.out, hE]; rfl
    have hu5 : U5 = 0 := by rw [← HU5'.out, hE]; rfl
    subst hE hu1 hu2 hu3 hu4 hu5
    go_wp2
    go_ret
    exact ⟨rfl, HU13.out⟩
  have Hy := hid h
  rw [h]
  clear h
  go_wp2_with fail
  refine (rMember_any P Q G r _ g1 (by omega) hQ).mono ?_
  rintro e w14 ⟨rfl, hU14⟩
  have HA14 := hid (HA13.out.up hU14)
  have HB14 := hid (HB13.out.up hU14)
  have HU14 := hid (HU13.out.trans hU14)
  clear hU14 HA13 HB13 HU13 c0 c1 c2 u0 u1 u2 u3
  obtain ⟨c0, c1, c2⟩ := HA14.out
  have u0 := HB14.out.val (i := 0) rfl
  have u1 := HB14.out.val (i := 1) rfl
  have u2 := HB14.out.val (i := 2) rfl
  have u3 := HB14.out.val (i := 3) rfl
  by_cases h : elB P Q r = true
  case neg =>
    have h' : elB P Q r = false := by simpa using h
    have hE : Eb = 2 := by rw [← HEb.out, bldE, Hg.out]; simp [blE, conB, Hg.out, h']
    rw [h']
    clear h h'
    have hu1 : U1 = 0 := by rw [← HU1'.out, hE]; rfl
    have hu2 : U2 = 0 := by rw [← HU2'.out, hE]; rfl
    have hu3 : U3 = 0 := by rw [← HU3'.out, hE]; rfl
    have hu4 : U4 = 0 := by rw [← HU4'.out, hE]; rfl
    have hu5 : U5 = 0 := by rw [← HU5'.out, hE]; rfl
    subst hE hu1 hu2 hu3 hu4 hu5
    go_wp2
    go_ret
    exact ⟨rfl, HU14.out⟩
  have Hr := hid h
  rw [h]
  clear h
  go_wp2_with fail
  refine (r23Scalar_any P Q G al _).mono ?_
  rintro e w15 ⟨rfl, hU15⟩
  have HA15 := hid (HA14.out.up hU15)
  have HB15 := hid (HB14.out.up hU15)
  have HU15 := hid (HU14.out.trans hU15)
  clear hU15 HA14 HB14 HU14 c0 c1 c2 u0 u1 u2 u3
  obtain ⟨c0, c1, c2⟩ := HA15.out
  have u0 := HB15.out.val (i := 0) rfl
  have u1 := HB15.out.val (i := 1) rfl
  have u2 := HB15.out.val (i := 2) rfl
  have u3 := HB15.out.val (i := 3) rfl
  by_cases h : exB Q al = true
  case neg =>
    have h' : exB Q al = false := by simpa using h
    have hE : Eb = 2 := by rw [← HEb.out, bldE, Hg.out]; simp [blE, conB, Hg.out, h']
    rw [h']
    clear h h'
    have hu1 : U1 = 0 := by rw [← HU1'.out, hE]; rfl
    have hu2 : U2 = 0 := by rw [← HU2'.out, hE]; rfl
    have hu3 : U3 = 0 := by rw [← HU3'.out, hE]; rfl
    have hu4 : U4 = 0 := by rw [← HU4'.out, hE]; rfl
    have hu5 : U5 = 0 := by rw [← HU5'.out, hE]; rfl
    subst hE hu1 hu2 hu3 hu4 hu5
    go_wp2
    go_ret
    exact ⟨rfl, HU15.out⟩
  have Ha := hid h
  rw [h]
  clear h
  go_wp2_with fail
  refine (r23Scalar_any P Q G be _).mono ?_
  rintro e w16 ⟨rfl, hU16⟩
  have HA16 := hid (HA15.out.up hU16)
  have HB16 := hid (HB15.out.up hU16)
  have HU16 := hid (HU15.out.trans hU16)
  clear hU16 HA15 HB15 HU15 c0 c1 c2 u0 u1 u2 u3
  obtain ⟨c0, c1, c2⟩ := HA16.out
  have u0 := HB16.out.val (i := 0) rfl
  have u1 := HB16.out.val (i := 1) rfl
  have u2 := HB16.out.val (i := 2) rfl
  have u3 := HB16.out.val (i := 3) rfl
  by_cases h : exB Q be = true
  case neg =>
    have h' : exB Q be = false := by simpa using h
    have hE : Eb = 2 := by rw [← HEb.out, bldE, Hg.out]; simp [blE, conB, Hg.out, h']
    rw [h']
    clear h h'
    have hu1 : U1 = 0 := by rw [← HU1'.out, hE]; rfl
    have hu2 : U2 = 0 := by rw [← HU2'.out, hE]; rfl
    have hu3 : U3 = 0 := by rw [← HU3'.out, hE]; rfl
    have hu4 : U4 = 0 := by rw [← HU4'.out, hE]; rfl
    have hu5 : U5 = 0 := by rw [← HU5'.out, hE]; rfl
    subst hE hu1 hu2 hu3 hu4 hu5
    go_wp2
    go_ret
    exact ⟨rfl, HU16.out⟩
  have Hb := hid h
  rw [h]
  clear h
  by_cases h : n > 16384
  case pos =>
    have dl : decide ((n : Int) > 16384) = true := by simp; omega
    have hE : Eb = 5 := by rw [← HEb.out, bldE, Hg.out]; simp [blE, conB, Hg.out, Hy.out, Hr.out, Ha.out, Hb.out]; omega
    clear h
    have hu1 : U1 = 0 := by rw [← HU1'.out, hE]; rfl
    have hu2 : U2 = 0 := by rw [← HU2'.out, hE]; rfl
    have hu3 : U3 = 0 := by rw [← HU3'.out, hE]; rfl
    have hu4 : U4 = 0 := by rw [← HU4'.out, hE]; rfl
    have hu5 : U5 = 0 := by rw [← HU5'.out, hE]; rfl
    subst hE hu1 hu2 hu3 hu4 hu5
    go_wp2
    go_ret
    exact ⟨rfl, HU16.out⟩
  have dl : decide ((n : Int) > 16384) = false := by simp; omega
  have hE : Eb = 0 := by rw [← HEb.out, bldE, Hg.out]; simp [blE, conB, Hg.out, Hy.out, Hr.out, Ha.out, Hb.out]; omega
  have hu1 : U1 = al := by rw [← HU1'.out, hE]; rfl
  have hu2 : U2 = be := by rw [← HU2'.out, hE]; rfl
  have hu3 : U3 = K := by rw [← HU3'.out, hE]; rfl
  have hu4 : U4 = D := by rw [← HU4'.out, hE]; rfl
  have hu5 : U5 = C := by rw [← HU5'.out, hE]; rfl
  have N4 := hid (fun w' hU => M4.out w' hU Hg.out Hy.out Hr.out Ha.out Hb.out (by omega))
  subst hE hu1 hu2 hu3 hu4 hu5
  clear h M4 HEb HU1' HU2' HU3' HU4' HU5'
  have eC : (U5 == U5) = true := by simp
  go_wp2_with fail
  refine (N4.out _ (HU16.out)).mono ?_
  rintro e w17 ⟨rfl, hU17⟩
  have HA17 := hid (HA16.out.up hU17)
  have HB17 := hid (HB16.out.up hU17)
  have HU17 := hid (HU16.out.trans hU17)
  clear hU17 HA16 HB16 HU16 c0 c1 c2 u0 u1 u2 u3
  obtain ⟨c0, c1, c2⟩ := HA17.out
  have u0 := HB17.out.val (i := 0) rfl
  have u1 := HB17.out.val (i := 1) rfl
  have u2 := HB17.out.val (i := 2) rfl
  have u3 := HB17.out.val (i := 3) rfl
  obtain ⟨oz, hoz⟩ : ∃ oz, w17.heap.size = oz := ⟨_, rfl⟩
  have loz : o < oz := by rw [← hoz]; exact cell_lt c0
  have luz : ob < oz := by rw [← hoz]; exact cell_lt u0
  go_wp2
  go_ret
  exact ⟨rfl, HU17.out.alloc _⟩
end Go.Proofs.YtdlcmpbpdbpanaaGreatDoor
namespace Go.Proofs.YtdlcmpbpdbpanaaGreatDoor.lawBlindSteps
open Go.Proofs.YtdlcmpbpdbpanaaGreatDoor
theorem fact1 : (Rows.blindStepsRow.wf (OpenSpec.ofChange (OpenSpec.ofChange Rows.blindStepsSpec).bare) : Bool) = true := by kernel_rfl
theorem fact2 : (laidOutB Tryz.pinned.checked.prog : Bool) = true := by kernel_rfl
theorem fact3 : (mapsRowed Tryz.pinned.checked.prog : Bool) = true := by kernel_rfl
theorem fact4 : (Tryz.f8.params.all (Tryz.pinned.checked.prog.readableRec ·) : Bool) = true := by kernel_rfl
theorem fact5 : (namedTie Tryz.pinned.checked.prog Rows.blindStepsRow.named (OpenSpec.ofChange Rows.blindStepsSpec).bare.vars : Bool) = true := by kernel_rfl
theorem fact6 : ((Rows.blindStepsRow.stops == []) : Bool) = true := by kernel_rfl
theorem fact7 : ((Tryz.pinned.checked.prog.stops == []) : Bool) = true := by kernel_rfl
theorem fact8 : ((Rows.blindStepsRow.knobs == []) : Bool) = true := by kernel_rfl
theorem fact9 : ((Tryz.pinned.checked.prog.stopKnobs == []) : Bool) = true := by kernel_rfl
theorem fact10 : ((Rows.blindStepsRow.inPlace == Tryz.pinned.checked.prog.inPlace 8) : Bool) = true := by kernel_rfl
theorem fact11 : ((Rows.blindStepsRow.unfollowed == Tryz.pinned.checked.prog.unfollowed 8) : Bool) = true := by kernel_rfl
theorem fact12 : ((Rows.blindStepsRow.recurses == Tryz.pinned.checked.prog.recurses 8) : Bool) = true := by kernel_rfl
theorem fact13 : ((Rows.blindStepsRow.named == Tryz.pinned.checked.prog.varsNamed 8) : Bool) = true := by kernel_rfl
theorem fact14 : ((Rows.blindStepsRow.maps == (Tryz.f8.params.toList ++ (OpenSpec.ofChange Rows.blindStepsSpec).bare.plain.varTypes Tryz.pinned.checked.prog).any (Tryz.pinned.checked.prog.mapsRec ·)) : Bool) = true := by kernel_rfl
theorem fact15 : ((Rows.blindStepsRow.ifaces == (Tryz.f8.params.toList ++ (OpenSpec.ofChange Rows.blindStepsSpec).bare.plain.varTypes Tryz.pinned.checked.prog).any (Tryz.pinned.checked.prog.ifacesRec ·)) : Bool) = true := by kernel_rfl
theorem fact16 : ((Rows.blindStepsRow.mapsOut == Tryz.pinned.checked.prog.mapsAmong Tryz.f8.resultTypes.toList) : Bool) = true := by kernel_rfl
theorem fact17 : ((Rows.blindStepsRow.loops == (Tryz.f8.params.toList ++ (OpenSpec.ofChange Rows.blindStepsSpec).bare.plain.varTypes Tryz.pinned.checked.prog).any (Tryz.pinned.checked.prog.loopsFrom ·)) : Bool) = true := by kernel_rfl
theorem fact18 : ((Rows.blindStepsRow.wideKeys == (Tryz.f8.params.toList ++ (OpenSpec.ofChange Rows.blindStepsSpec).bare.plain.varTypes Tryz.pinned.checked.prog ++ Tryz.f8.resultTypes.toList).any (Tryz.pinned.checked.prog.wideKeysFrom ·)) : Bool) = true := by kernel_rfl
theorem fact19 : ((OpenSpec.ofChange Rows.blindStepsSpec).bare.vars.all (Tryz.pinned.checked.prog.varReadable ·) : Bool) = true := by kernel_rfl
theorem fact20 : (Tryz.f8.resultTypes.all (fun t => Tryz.pinned.checked.prog.readableRec t && decide (t < Tryz.pinned.checked.prog.types.size)) : Bool) = true := by kernel_rfl
theorem fact21 : ((Rows.blindStepsRow.ifacesOut == Tryz.f8.resultTypes.toList.any (Tryz.pinned.checked.prog.ifacesRec ·)) : Bool) = true := by kernel_rfl
theorem fact22 : ((Rows.blindStepsRow.loopsOut == Tryz.f8.resultTypes.toList.any (Tryz.pinned.checked.prog.loopsFrom ·)) : Bool) = true := by kernel_rfl
theorem fact23 : ((Rows.blindStepsRow.plainKeys == Tryz.pinned.checked.prog.plainKeys) : Bool) = true := by kernel_rfl
theorem fact24 : (Rows.blindStepsRow.shortTexts.isNone : Bool) = true := by kernel_rfl
theorem fact25 : (Tryz.pinned.checked.prog.stopsHeard : Bool) = true := by kernel_rfl
theorem fact26 : (Tryz.pinned.checked.prog.mayEnter : Bool) = true := by kernel_rfl
theorem fact27 : ((Rows.blindStepsRow.lifted == Tryz.pinned.checked.prog.liftsFinal) : Bool) = true := by kernel_rfl
theorem fact28 : ((Tryz.pinned.checked.prog.make == some Rows.blindStepsRow.make) : Bool) = true := by kernel_rfl
theorem fact29 : ((Rows.blindStepsRow.kinds == (if Rows.blindStepsRow.domain.isEmpty then [] else Tryz.f8.params.toList.map fun t => match Tryz.pinned.checked.prog.underlying t with | some (.int k) => some k | _ => none)) : Bool) = true := by kernel_rfl
theorem fact30 : ((Rows.blindStepsRow.pinned == Rows.blindStepsRow.pinnedBy) : Bool) = true := by kernel_rfl
theorem fact31 : ((Rows.blindStepsRow.veiled == (Tryz.f8.params.toList ++ (OpenSpec.ofChange Rows.blindStepsSpec).bare.plain.varTypes Tryz.pinned.checked.prog ++ Tryz.f8.resultTypes.toList).any (Tryz.pinned.checked.prog.veiledRec ·)) : Bool) = true := by kernel_rfl
theorem fact32 : (Rows.blindStepsRow.veiledFits Tryz.pinned.checked.prog Tryz.f8.params.toList (Tryz.f8.params.toList ++ (OpenSpec.ofChange Rows.blindStepsSpec).bare.plain.varTypes Tryz.pinned.checked.prog ++ Tryz.f8.resultTypes.toList) : Bool) = true := by kernel_rfl
theorem andB {a b : Bool} (h : a = true) (k : b = true) : (a && b) = true := by rw [h, k]; rfl
set_option maxRecDepth 100000 in
theorem closed : joinedFacts Tryz.pinned.checked.prog 8 Tryz.f8 (OpenSpec.ofChange Rows.blindStepsSpec).bare Rows.blindStepsRow = true := by
  unfold joinedFacts
  exact (andB (andB (andB (andB (andB (andB (andB (andB (andB (andB (andB (andB (andB (andB (andB (andB (andB (andB (andB (andB (andB (andB (andB (andB (andB (andB (andB (andB (andB (andB (andB fact1 fact2) fact3) fact4) fact5) fact6) fact7) fact8) fact9) fact10) fact11) fact12) fact13) fact14) fact15) fact16) fact17) fact18) fact19) fact20) fact21) fact22) fact23) fact24) fact25) fact26) fact27) fact28) fact29) fact30) fact31) fact32)
end Go.Proofs.YtdlcmpbpdbpanaaGreatDoor.lawBlindSteps
namespace Go.Proofs.YtdlcmpbpdbpanaaGreatDoor.lawBlindSteps
open Go.Proofs.YtdlcmpbpdbpanaaGreatDoor Go.ChangeShapes Go.WideShapes Go.ChangeAt Go.RowKit Go.Sp

set_option maxRecDepth 100000 in
theorem contract (H : Type) (enc : TypeId × Value → H) (W : World) (base : Nat) (args : Array Value) (ds gs : List (DataW H)) (before : List MemPlace)
    (hval : ∀ (j : Nat) t v, Tryz.f8.params[j]? = some t → args[j]? = some v → Value.okWide Tryz.prog W .any base t v)
    (hW : DataW.Whole enc Tryz.prog Tryz.f8.params.toList Rows.blindStepsSpec.vars false W args.toList ds gs before) (hL : laidMetH Tryz.prog Rows.blindStepsRow.laid W) :
    Calls Tryz.prog 8 args W fun e W' => ∃ v, e = .returned v ∧ Rows.blindStepsSpec.post enc Tryz.prog Tryz.f8 false true false false W args v W' := by
  have hT := tab_of_four hL
  have hS := tabS_of_four hL
  have hW' := hW
  obtain ⟨p, q, hA0, hV, rfl, hfz, hnd⟩ := hW
  have hA : DataW.TrodAll enc Tryz.prog W 0 (fun _ => true) true Tryz.f8.params.toList args.toList ds p := hA0
  rw [Tryz.params8] at hA hval
  obtain ⟨v0, vs0, d0, ds0, p0, q0, hargs, rfl, rfl, h0, r0⟩ := trodAll_cons hA
  obtain ⟨v1, vs1, d1, ds1, p1, q1, rfl, rfl, rfl, h1, r1⟩ := trodAll_cons r0
  obtain ⟨v2, vs2, d2, ds2, p2, q2, rfl, rfl, rfl, h2, r2⟩ := trodAll_cons r1
  obtain ⟨v3, vs3, d3, ds3, p3, q3, rfl, rfl, rfl, h3, r3⟩ := trodAll_cons r2
  obtain ⟨v4, vs4, d4, ds4, p4, q4, rfl, rfl, rfl, h4, r4⟩ := trodAll_cons r3
  obtain ⟨v5, vs5, d5, ds5, p5, q5, rfl, rfl, rfl, h5, r5⟩ := trodAll_cons r4
  obtain ⟨v6, vs6, d6, ds6, p6, q6, rfl, rfl, rfl, h6, r6⟩ := trodAll_cons r5
  obtain ⟨v7, vs7, d7, ds7, p7, q7, rfl, rfl, rfl, h7, r7⟩ := trodAll_cons r6
  obtain ⟨rfl, rfl, rfl⟩ := trodAll_nil r7
  obtain rfl : args = #[v0, v1, v2, v3, v4, v5, v6, v7] := by cases args; simp_all
  obtain ⟨rfl, rfl⟩ := trodVars_none hV
  obtain ⟨P0, Q0, G0, rfl, bP0, bQ0, bG0⟩ := open_grp (hval 0 23 v0 rfl rfl) h0
  obtain ⟨x1, rfl, bx1, by1⟩ := open_i64 (hval 1 3 v1 rfl rfl) h1
  obtain ⟨x2, rfl, bx2, by2⟩ := open_i64 (hval 2 3 v2 rfl rfl) h2
  obtain ⟨xs3, hs3, bs3⟩ := open_bytes (hval 3 51 v3 rfl rfl) h3
  obtain ⟨x4, rfl, bx4, by4⟩ := open_i64 (hval 4 3 v4 rfl rfl) h4
  obtain ⟨x5, rfl, bx5, by5⟩ := open_i64 (hval 5 3 v5 rfl rfl) h5
  obtain ⟨x6, rfl, bx6, by6⟩ := open_i64 (hval 6 3 v6 rfl rfl) h6
  obtain ⟨x7, rfl, bx7, by7⟩ := open_i64 (hval 7 3 v7 rfl rfl) h7
  refine (BlindSteps_walk P0 Q0 G0 x1 x2 x4 x5 x6 x7 v3 xs3 W bP0.1 bQ0.2 hT hS hs3 bs3).mono fun e W' ⟨he, hU⟩ => ?_
  exact ⟨_, he, law_shut Tryz.underlying4 (by kernel_rfl) rfl rfl laidOut (by kernel_rfl) hW' hU⟩

theorem laid_met (os : Os) : laidMet Tryz.prog Rows.blindStepsRow.laid ((World.laidAll Tryz.prog os laidFour).forCall (fun _ _ => 0) ⟨#[], #[.agg #[.int .i64 0, .int .i64 0, .int .i64 0], .int .i64 0, .int .i64 0, .slice none 0 0, .int .i64 0, .int .i64 0, .int .i64 0, .int .i64 0], []⟩).memory :=
  laidMet_laidAll _ (by kernel_rfl) (by kernel_rfl)
theorem reads (os : Os) {H : Type} (enc : TypeId × Value → H) : ∃ places, DataW.whole enc Tryz.prog ((World.laidAll Tryz.prog os laidFour).forCall (fun _ _ => 0) ⟨#[], #[.agg #[.int .i64 0, .int .i64 0, .int .i64 0], .int .i64 0, .int .i64 0, .slice none 0 0, .int .i64 0, .int .i64 0, .int .i64 0, .int .i64 0], []⟩).memory Tryz.f8.params.toList Rows.blindStepsSpec.vars false (#[.agg #[.int .i64 0, .int .i64 0, .int .i64 0], .int .i64 0, .int .i64 0, .slice none 0 0, .int .i64 0, .int .i64 0, .int .i64 0, .int .i64 0] : Array Value).toList 8 = some ([.agg [.lit (.int .i64 0), .lit (.int .i64 0), .lit (.int .i64 0)], .lit (.int .i64 0), .lit (.int .i64 0), .nil, .lit (.int .i64 0), .lit (.int .i64 0), .lit (.int .i64 0), .lit (.int .i64 0)], [], places) :=
  ⟨[], by kernel_rfl⟩

set_option maxRecDepth 100000 in
theorem lifted (os : Os) (started : os.Started) (H : Type) (enc : TypeId × Value → H) (F : Stop.Interp) :
    ReturnsInHanded {} Tryz.checked os 8 .any ((OpenSpec.ofChange Rows.blindStepsSpec).preRow enc Tryz.prog Tryz.f8 Rows.blindStepsRow.domain false Rows.blindStepsRow.laid) (((OpenSpec.ofChange Rows.blindStepsSpec).at F).post enc Tryz.prog Tryz.f8 false true false false) := by
  obtain ⟨places, hx⟩ := reads os enc
  refine returnsInHanded_of_row (C := Tryz.checked) (s := OpenSpec.ofChange Rows.blindStepsSpec) own started (by kernel_rfl) Tryz.func8
    (witness_row_at (enc := enc) (C := Tryz.checked) false (World.laidAll Tryz.prog os laidFour) #[.agg #[.int .i64 0, .int .i64 0, .int .i64 0], .int .i64 0, .int .i64 0, .slice none 0 0, .int .i64 0, .int .i64 0, .int .i64 0, .int .i64 0] (World.laidAll_os _ _ _) (by kernel_rfl) (by kernel_rfl) (by kernel_rfl)
      (OpenSpec.preRow_of_cond 8 hx (by kernel_rfl) (fun k hk => by cases hk) (by kernel_rfl) (laid_met os))) ?_
  intro W base args ds gs before hval hW _ _ _ hL _ _
  exact contract H enc W base args ds gs before hval hW hL

theorem said : Rows.BlindStepsSaid :=
  OpenClaim.holds_of_cond 8 Tryz.f8 rfl rfl rfl rfl rfl rfl rfl ⟨rfl, rfl, rfl, rfl, rfl⟩ rfl rfl rfl rfl rfl (by kernel_rfl) Tryz.func8 closed
    (of_decide_eq_true (by kernel_rfl)) (by unfold Func.isWrapper; first | (rw [if_pos (by decide +kernel)]; kernel_rfl) | (rw [if_neg (by decide +kernel)]; exact ⟨rfl, rfl⟩))
    (fun os started H enc _ F => by rw [OpenClaim.pre_eq_preRow]; exact lifted os started H enc F)

theorem plain (f : FuncId) (fn : Func) (hf : Tryz.pinned.checked.prog.funcNamed "specie/specielaw23.BlindSteps" = some f) (hfn : Tryz.pinned.checked.prog.funcs[f]? = some fn) :
    false = Tryz.pinned.checked.prog.looks [] ∧ ∀ (j : Nat) t, fn.params[j]? = some t → Tryz.pinned.checked.prog.wantsStandIn t = false := by
  obtain rfl : f = 8 := Option.some.inj ((show Tryz.prog.funcNamed "specie/specielaw23.BlindSteps" = some 8 by kernel_rfl).symm.trans hf) |>.symm
  obtain rfl : fn = Tryz.f8 := (Option.some.inj (Tryz.func8.symm.trans hfn)).symm
  refine ⟨by kernel_rfl, fun j t ht => ?_⟩
  have hall : Tryz.f8.params.toList.all (fun t => !Tryz.prog.wantsStandIn t) = true := by kernel_rfl
  have := List.all_eq_true.1 hall t (by rw [← Array.mem_toList_iff.symm]; exact Array.mem_of_getElem? ht)
  exact (by simpa using this : Tryz.prog.wantsStandIn t = false)

/-- The card. -/
theorem card : Rows.BlindStepsCardSaid :=
  Claim7.holds_tied_plain_at .later [] _ _ _ _ said (fun _ h => by cases h) (by kernel_rfl) (fun _ h => by cases h) blindSteps_row_tie rfl ⟨rfl, rfl⟩ (by kernel_rfl) rfl plain (by kernel_rfl)
end Go.Proofs.YtdlcmpbpdbpanaaGreatDoor.lawBlindSteps
