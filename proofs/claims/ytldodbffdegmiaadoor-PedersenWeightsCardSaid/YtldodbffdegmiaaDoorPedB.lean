/- Commitments: what is given, Commit, Open, Add, Scale, Shift. -/
import Derived.Test.YtldodbffdegmiaaDoorPedA
import Derived.Test.YtldodbffdegmiaaDoorProdB
namespace Go.Proofs.YtldodbffdegmiaaDoor
open Go.RowKit Go.Sp
set_option maxHeartbeats 2000000
set_option maxRecDepth 20000

theorem scalar_any (P Q G A B C x : Int) (w : World) :
    Calls Tryd.prog 132 #[bas P Q G A B C, .int .i64 x] w fun e w' => e = .returned (.bool (exB Q x)) ∧ Up w w' := by
  by_cases h0 : 0 ≤ x
  · have hd : decide (0 ≤ x) = true := by simpa using h0
    have hB : exB Q x = decide (x < Q) := by simp [exB]; omega
    rw [hB]
    go_enter Tryd.func132, Tryd.ntmps132
    go_wp2
    go_ret
    exact ⟨rfl, (Up.refl w).alloc _⟩
  · have hd : decide (0 ≤ x) = false := by simpa using h0
    have hB : exB Q x = false := by simp [exB]; omega
    rw [hB]
    go_enter Tryd.func132, Tryd.ntmps132
    go_wp2
    go_ret
    exact ⟨rfl, (Up.refl w).alloc _⟩

theorem rScalar_any (P Q G x : Int) (w : World) :
    Calls Tryd.prog 66 #[grp P Q G, .int .i64 x] w fun e w' => e = .returned (.bool (exB Q x)) ∧ Up w w' := by
  by_cases h0 : 0 ≤ x
  · have hd : decide (0 ≤ x) = true := by simpa using h0
    have hB : exB Q x = decide (x < Q) := by simp [exB]; omega
    rw [hB]
    go_enter Tryd.func66, Tryd.ntmps66
    go_wp2
    go_ret
    exact ⟨rfl, (Up.refl w).alloc _⟩
  · have hd : decide (0 ≤ x) = false := by simpa using h0
    have hB : exB Q x = false := by simp [exB]; omega
    rw [hB]
    go_enter Tryd.func66, Tryd.ntmps66
    go_wp2
    go_ret
    exact ⟨rfl, (Up.refl w).alloc _⟩

/-- The error of bases, scalars, and elements. -/
def givE (P Q G A B C : Int) (ss es : List Int) : Int :=
  if bvB P Q G A B C = true then (if ss.all (exB Q) = true ∧ es.all (elB P Q) = true then 0 else 2) else 1

theorem all_of {p : Int → Bool} {xs : List Int} (h : ∀ j, j < xs.length → p (xs.getD j 0) = true) : xs.all p = true := by
  rw [List.all_eq_true]
  intro x hx
  obtain ⟨j, hj, rfl⟩ := List.getElem_of_mem hx
  have := h j hj
  simpa [hj] using this

theorem given_any (P Q G A B C : Int) (v1 v2 : Value) (ss es : List Int) (w : World) (hP : -9223372036854775808 ≤ P) (hQ : Q ≤ 9223372036854775807) (hT : Tab w) (h1 : IntsAt w v1 ss) (h2 : IntsAt w v2 es) :
    Calls Tryd.prog 105 #[bas P Q G A B C, v1, v2] w fun e w' => e = .returned (.int .i64 (givE P Q G A B C ss es)) ∧ Up w w' := by
  have HT := hid hT
  obtain ⟨l1, a1, cp1, rfl, hc1⟩ := h1
  obtain ⟨l2, a2, cp2, rfl, hc2⟩ := h2
  have HC1 := hid hc1
  have HC2 := hid hc2
  have HE : Hid (givE P Q G A B C ss es = if bvB P Q G A B C = true then (if ss.all (exB Q) = true ∧ es.all (elB P Q) = true then 0 else 2) else 1) := hid rfl
  generalize givE P Q G A B C ss es = E at *
  obtain ⟨n, hn⟩ : ∃ n, ss.length = n := ⟨_, rfl⟩
  obtain ⟨m, hm⟩ : ∃ m, es.length = m := ⟨_, rfl⟩
  have HN := hid hn
  have HM := hid hm
  rw [hn] at l1
  rw [hm] at l2
  rw [hn, hm]
  clear hT hc1 hc2 hn hm
  go_enter Tryd.func105, Tryd.ntmps105
  go_wp2_with fail
  refine (bValid_any P Q G A B C _ hP hQ (HT.out.up ((Up.refl w).alloc _))).mono ?_
  rintro e w1 ⟨rfl, hU1⟩
  have HA := hid (bas_reads rfl hU1)
  have HU1 := hid (((Up.refl w).alloc _).trans hU1)
  clear hU1
  by_cases hb : bvB P Q G A B C = true
  case neg =>
    have hb' : bvB P Q G A B C = false := by simpa using hb
    have hE : E = 1 := by rw [HE.out, if_neg hb]
    subst hE
    rw [hb']
    clear hb hb'
    go_wp2
    go_ret
    exact ⟨rfl, HU1.out⟩
  have HE2 : Hid (E = if ss.all (exB Q) = true ∧ es.all (elB P Q) = true then 0 else 2) := hid (by rw [HE.out, if_pos hb])
  have HB1 : Hid (∀ i, i < n → exB Q (ss.getD i 0) = false → E = 2) := hid (fun i hi h => by
    rw [HE2.out, not_all (by rw [HN.out]; exact hi) h, if_neg (by simp)])
  have HB2 : Hid (∀ i, i < m → elB P Q (es.getD i 0) = false → E = 2) := hid (fun i hi h => by
    rw [HE2.out, not_all (by rw [HM.out]; exact hi) h, if_neg (by simp)])
  have Hb := hid hb
  have Hg := hid (bv_iff.1 hb).1
  have g := gv_iff.1 (bv_iff.1 hb).1
  have g1 := g.P61
  have g2 := g.P4
  rw [hb]
  clear hb HE g
  obtain ⟨⟨c0, c1, c2⟩, c3, c4, c5⟩ := HA.out
  obtain ⟨o, ho⟩ : ∃ o, w.heap.size = o := ⟨_, rfl⟩
  rw [ho] at HA
  rw [ho]
  clear ho c0 c1 c2 c3 c4 c5
  go_wp2_with fail
  go_loopw [16] (fun vi wr => ∃ i : Nat, i ≤ n ∧ vi = .int .i64 i ∧ Hid (∀ j, j < i → exB Q (ss.getD j 0) = true) ∧ Hid (Up w wr) ∧ Hid (BasAt wr o P Q G A B C)) (fun vi _ => n - (intOf vi).toNat)
  case atStart => exact ⟨0, by omega, rfl, hid (fun j hj => by omega), HU1, HA⟩
  case round =>
    obtain ⟨i, hi, rfl, HG, HU, HAr⟩ := hrel
    obtain ⟨⟨c0, c1, c2⟩, c3, c4, c5⟩ := HAr.out
    by_cases hl : i < n
    · have hl1 : i < ss.length := by rw [HN.out]; exact hl
      obtain ⟨b1, o1, rfl, k1⟩ := ints_cell HC1.out HU.out hl1
      have HBi := hid (HB1.out i hl)
      have HS : Hid (exB Q (ss.getD i 0) = true → ∀ j, j < i + 1 → exB Q (ss.getD j 0) = true) := hid (fun h j hj => by
        rcases Nat.lt_or_ge j i with h3 | h3
        · exact HG.out j h3
        · obtain rfl : j = i := by omega
          exact h)
      clear hl1 HG
      generalize ss.getD i 0 = x at *
      go_wp2_with fail
      refine (scalar_any P Q G A B C x _).mono ?_
      rintro e w3 ⟨rfl, hU3⟩
      have HU3 := hid (HU.out.trans hU3)
      have HA3 := hid (HAr.out.up hU3)
      clear hU3 c0 c1 c2 c3 c4 c5 k1
      by_cases he : exB Q x = true
      · have He := hid he
        rw [he]
        clear he
        go_wp2_with fail
        go_roundw
        case rel => exact ⟨i + 1, by omega, by go_num, hid (HS.out He.out), HU3, HA3⟩
        case measure => simp [intOf]; omega
      · have he' : exB Q x = false := by simpa using he
        obtain rfl := HBi.out he'
        rw [he']
        clear he he'
        go_wp2
        go_ret
        exact ⟨rfl, HU3.out⟩
    · obtain rfl : i = n := by omega
      have HGa := hid (all_of (p := exB Q) (xs := ss) (by rw [HN.out]; exact HG.out))
      clear HG
      go_wp2_with fail
      go_loopw [27] (fun vi wr => ∃ i : Nat, i ≤ m ∧ vi = .int .i64 i ∧ Hid (∀ j, j < i → elB P Q (es.getD j 0) = true) ∧ Hid (Up w wr) ∧ Hid (BasAt wr o P Q G A B C)) (fun vi _ => m - (intOf vi).toNat)
      case atStart => exact ⟨0, by omega, rfl, hid (fun j hj => by omega), HU, HAr⟩
      case round =>
        clear c0 c1 c2 c3 c4 c5 HU HAr
        obtain ⟨k, hk, rfl, HG, HU, HAr⟩ := hrel
        obtain ⟨⟨c0, c1, c2⟩, c3, c4, c5⟩ := HAr.out
        by_cases hl : k < m
        · have hl1 : k < es.length := by rw [HM.out]; exact hl
          obtain ⟨b1, o1, rfl, k1⟩ := ints_cell HC2.out HU.out hl1
          have HBi := hid (HB2.out k hl)
          have HS : Hid (elB P Q (es.getD k 0) = true → ∀ j, j < k + 1 → elB P Q (es.getD j 0) = true) := hid (fun h j hj => by
            rcases Nat.lt_or_ge j k with h3 | h3
            · exact HG.out j h3
            · obtain rfl : j = k := by omega
              exact h)
          clear hl1 HG
          generalize es.getD k 0 = x at *
          go_wp2_with fail
          refine (Contains_any P Q G x _ hP hQ (HT.out.up HU.out)).mono ?_
          rintro e w3 ⟨rfl, hU3⟩
          rw [show conB P Q G x = elB P Q x by simp [conB, Hg.out]]
          have HU3 := hid (HU.out.trans hU3)
          have HA3 := hid (HAr.out.up hU3)
          clear hU3 c0 c1 c2 c3 c4 c5 k1
          by_cases he : elB P Q x = true
          · have He := hid he
            rw [he]
            clear he
            go_wp2_with fail
            go_roundw
            case rel => exact ⟨k + 1, by omega, by go_num, hid (HS.out He.out), HU3, HA3⟩
            case measure => simp [intOf]; omega
          · have he' : elB P Q x = false := by simpa using he
            obtain rfl := HBi.out he'
            rw [he']
            clear he he'
            go_wp2
            go_ret
            exact ⟨rfl, HU3.out⟩
        · obtain rfl : k = m := by omega
          have hE : E = 0 := by rw [HE2.out, if_pos ⟨HGa.out, all_of (by rw [HM.out]; exact HG.out)⟩]
          subst hE
          go_wp2
          go_ret
          exact ⟨rfl, HU.out⟩

/-- The commitment to m with r. -/
def comV (P Q G C m r : Int) : Int := gpw P Q G m * gpw P Q C r % P

theorem com_prV {P Q G A B C m r : Int} (hb : bvB P Q G A B C = true) (hm : exB Q m = true) (hr : exB Q r = true) : prE P Q G [G, C] [m, r] = 0 ∧ prV P Q G [G, C] [m, r] = comV P Q G C m r := by
  obtain ⟨hg, _, _, _, hc⟩ := bv_iff.1 hb
  have g := gv_iff.1 hg
  have g2 := g.P4
  have g5 := g.G2
  have hG : elB P Q G = true := el_iff.2 ⟨by omega, g.GP, g.GQ⟩
  have h0 : prE P Q G [G, C] [m, r] = 0 := prE_zero.2 ⟨hg, rfl, by simp, by simp [hG, hc], by simp [hm, hr]⟩
  refine ⟨h0, ?_⟩
  rw [prV, if_pos h0]
  show (1 * gpw P Q G m % P) * gpw P Q C r % P = _
  rw [Int.one_mul, show gpw P Q G m % P = gpw P Q G m from Int.emod_eq_of_lt (gpw_nonneg (by omega)).1 (gpw_nonneg (by omega)).2]
  rfl

theorem com_el {P Q G A B C m r : Int} (hb : bvB P Q G A B C = true) : elB P Q (comV P Q G C m r) = true := by
  obtain ⟨hg, _, _, _, hc⟩ := bv_iff.1 hb
  have g := gv_iff.1 hg
  have g2 := g.P4
  have g3 := g.Q3
  have g5 := g.G2
  have hG : elB P Q G = true := el_iff.2 ⟨by omega, g.GP, g.GQ⟩
  exact el_mul (by omega) (by omega) (gpw_el (by omega) (by omega) hG m) (gpw_el (by omega) (by omega) hc r)

theorem commit_any (P Q G A B C m r : Int) (w : World) (hP : -9223372036854775808 ≤ P) (hQ : Q ≤ 9223372036854775807) (hT : Tab w) :
    Calls Tryd.prog 106 #[bas P Q G A B C, .int .i64 m, .int .i64 r] w fun e w' => e = .returned (.int .i64 (prV P Q G [G, C] [m, r])) ∧ Up w w' := by
  have HT := hid hT
  obtain ⟨V, hV⟩ : ∃ V, prV P Q G [G, C] [m, r] = V := ⟨_, rfl⟩
  have HV := hid hV
  rw [hV]
  clear hT hV
  go_enter Tryd.func106, Tryd.ntmps106
  go_wp2_with fail
  refine (Product_any P Q G _ _ [G, C] [m, r] _ hP hQ (HT.out.up ((((Up.refl w).alloc _).alloc _).alloc _)) (ints_two (by go_simp) (by go_simp)) (ints_two (by go_simp) (by go_simp))).mono ?_
  rintro e w1 ⟨rfl, hU1⟩
  rw [HV.out]
  go_wp2
  go_ret
  exact ⟨rfl, ((((Up.refl w).alloc _).alloc _).alloc _).trans hU1⟩
end Go.Proofs.YtldodbffdegmiaaDoor
