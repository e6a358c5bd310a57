/- specieref12.Rows. -/
import Derived.Test.YtldodbffdegmiaaDoorRowB
import Derived.Deep.RegionHeld3
import Derived.Deep.AppendLies
namespace Go.Proofs.YtldodbffdegmiaaDoor
open Go.RowKit Go.Sp
set_option maxHeartbeats 4000000
set_option maxRecDepth 20000

theorem all_ofR {p : Int → Bool} {xs : List Int} (h : ∀ j, j < xs.length → p (xs.getD j 0) = true) : xs.all p = true := by
  rw [List.all_eq_true]
  intro x hx
  obtain ⟨j, hj, rfl⟩ := List.getElem_of_mem hx
  have := h j hj
  simpa [hj] using this

theorem keepGrown {w0 wa wb : World} {B b1 o1 b2 o2 b3 o3 b4 o4 : Nat} {v1 v2 v3 v4 : Value} {row : Option Nat} (hB : w0.heap.size = B) (q1 : b1 < B) (q2 : b2 < B) (q3 : b3 < B) (q4 : b4 < B) (hg : wa.grownBy wb row) (hr : ∀ k, row = some k → B ≤ k)
    (h : wa.cell? ⟨b1, o1, none⟩ = some v1 ∧ wa.cell? ⟨b2, o2, none⟩ = some v2 ∧ wa.cell? ⟨b3, o3, none⟩ = some v3 ∧ wa.cell? ⟨b4, o4, none⟩ = some v4 ∧ Hid (Up w0 wa)) :
    wb.cell? ⟨b1, o1, none⟩ = some v1 ∧ wb.cell? ⟨b2, o2, none⟩ = some v2 ∧ wb.cell? ⟨b3, o3, none⟩ = some v3 ∧ wb.cell? ⟨b4, o4, none⟩ = some v4 ∧ Hid (Up w0 wb) := by
  obtain ⟨h1, h2, h3, h4, hU⟩ := h
  have hs := hU.out.size
  have hb : Below B wa wb := Below.grown (Below.refl B wa) hg (by omega) hr
  exact ⟨by rw [hb.cell q1]; exact h1, by rw [hb.cell q2]; exact h2, by rw [hb.cell q3]; exact h3, by rw [hb.cell q4]; exact h4, hid (up_grown hU.out hg (fun k hk => by rw [hB]; exact hr k hk))⟩

theorem rRows_any (P Q G : Int) (v1 v2 : Value) (rs : List (List Int)) (es : List Int) (w : World) (hP : -9223372036854775808 ≤ P) (hQ : Q ≤ 9223372036854775807) (h1 : RowsAt w v1 rs) (h2 : IntsAt w v2 es) :
    Calls Tryd.prog 58 #[grp P Q G, v1, v2] w (RowsOut P Q G rs es w) := by
  have HI1 := hid h1
  have HI2 := hid h2
  obtain ⟨E, hE⟩ : ∃ E, rsE P Q G rs es = E := ⟨_, rfl⟩
  have HO : Hid (RowsOut P Q G rs es w = fun e w' => ∃ v, e = .returned (.tuple #[v, .int .i64 E]) ∧ OwnI w' w.heap.size v (if E = 0 then rsL P Q rs es else []) ∧ Up w w') := hid (by unfold RowsOut; rw [hE])
  have HE : Hid (E = if gvB P Q G = true ∧ (rs.any fun r => decide (r.length ≠ es.length)) = false then (if 100 < rs.length ∨ 100 < es.length then 5 else if es.all (exB Q) = true ∧ (rs.any fun r => !r.all (elB P Q)) = false then 0 else 2) else 1) := hid (by rw [← hE]; rfl)
  obtain ⟨l1, a1, cp1, rfl, _⟩ := h1
  obtain ⟨l2, a2, cp2, rfl, hc2⟩ := h2
  have HC2 := hid hc2
  obtain ⟨n, hn⟩ : ∃ n, rs.length = n := ⟨_, rfl⟩
  obtain ⟨m, hm⟩ : ∃ m, es.length = m := ⟨_, rfl⟩
  have HN := hid hn
  have HM := hid hm
  rw [hn] at HI1 l1
  rw [hm] at HI2 l2
  rw [hn, hm]
  obtain ⟨i0, hi, hz0, hz1, hz2⟩ := info_parts infoInt
  have HBad : Hid (∀ x : Int, E = x → x ≠ 0 → ∀ w', Up w w' → RowsOut P Q G rs es w (.returned (.tuple #[.slice none 0 0, .int .i64 x])) w') := hid (fun x hx h w' hU => by
    rw [HO.out]
    exact ⟨_, by rw [hx], by rw [if_neg (by omega)]; exact own_nil _ _, hU⟩)
  clear hE hn hm hc2
  by_cases hg : gvB P Q G = true
  case neg =>
    have hE : E = 1 := by rw [HE.out, if_neg (fun h => hg h.1)]
    have HEE := hid hE
    have hg' : gvB P Q G = false := by simpa using hg
    have Hg := hid hg'
    clear hg hg' hE
    go_enter Tryd.func58, Tryd.ntmps58
    go_wp2_with fail
    refine (rValid_any P Q G _ hP hQ).mono ?_
    rintro e w1 ⟨rfl, hU1⟩
    rw [Hg.out]
    go_wp2
    go_ret2
    exact HBad.out 1 HEE.out (by omega) _ (((Up.refl w).alloc _).trans hU1)
  have Hg := hid hg
  have g := gv_iff.1 hg
  have g1 := g.P61
  have g2 := g.P4
  have g3 := g.Q3
  have HE1 : Hid (E = if (rs.any fun r => decide (r.length ≠ es.length)) = false then (if 100 < n ∨ 100 < m then 5 else if es.all (exB Q) = true ∧ (rs.any fun r => !r.all (elB P Q)) = false then 0 else 2) else 1) := hid (by rw [HE.out]; simp [hg, HN.out, HM.out])
  clear hg g HE
  go_enter Tryd.func58, Tryd.ntmps58
  go_wp2_with fail
  have HG0 := hid (box_reads (w := w) (P := P) (Q := Q) (G := G) rfl (Up.refl _))
  refine (rValid_any P Q G _ hP hQ).mono ?_
  rintro e w1 ⟨rfl, hU1⟩
  rw [Hg.out]
  have HG1 := hid (HG0.out.up hU1)
  have HU1 := hid (((Up.refl w).alloc _).trans hU1)
  clear hU1 HG0
  obtain ⟨o, ho⟩ : ∃ o, w.heap.size = o := ⟨_, rfl⟩
  have HOo := hid ho
  rw [ho] at HG1
  rw [ho]
  clear ho
  go_wp2_with fail
  go_loopw [8] (fun vi wr => ∃ i : Nat, i ≤ n ∧ vi = .int .i64 i ∧ Hid (∀ j, j < i → (rs.getD j []).length = m) ∧ Hid (Up w1 wr)) (fun vi _ => n - (intOf vi).toNat)
  case atStart => exact ⟨0, by omega, rfl, hid (fun j hj => by omega), hid (Up.refl w1)⟩
  case round =>
    obtain ⟨i, hin, rfl, HL, HU⟩ := hrel
    by_cases hl : i < n
    · have hl1 : i < rs.length := by rw [HN.out]; exact hl
      obtain ⟨b1, o1, u, rfl, k1, hIu⟩ := rows_cell HI1.out (HU1.out.trans HU.out) hl1
      have hm1 := rows_mem hl1
      obtain ⟨lu, ua, uc, hu, _⟩ := hIu
      subst hu
      by_cases hlen : (rs.getD i []).length = m
      · have HS : Hid (∀ j, j < i + 1 → (rs.getD j []).length = m) := hid (fun j hj => by
          rcases Nat.lt_or_ge j i with h3 | h3
          · exact HL.out j h3
          · obtain rfl : j = i := by omega
            exact hlen)
        rw [hlen] at k1
        clear hlen hl1 hm1 HL lu
        go_wp2_with fail
        go_roundw
        case rel => exact ⟨i + 1, by omega, by go_num, HS, HU⟩
        case measure => simp [intOf]; omega
      · have hE : E = 1 := by
          rw [HE1.out, if_neg]
          intro h
          have := List.any_eq_false.1 h _ hm1
          rw [HM.out] at this
          simp at this
          exact hlen this
        have HEE := hid hE
        obtain ⟨q, hq⟩ : ∃ q, (rs.getD i []).length = q := ⟨_, rfl⟩
        rw [hq] at k1 hlen lu
        have d1 : (q != m) = true := by simpa using hlen
        have d2 : ((q : Int) != (m : Int)) = true := by simp; omega
        clear hlen hl1 hm1 hE hq HL
        go_wp2
        go_ret2
        exact HBad.out 1 HEE.out (by omega) _ (HU1.out.trans HU.out)
    · obtain rfl : i = n := by omega
      have hX : (rs.any fun r => decide (r.length ≠ es.length)) = false := by
        rw [List.any_eq_false]
        intro r hr
        obtain ⟨j, hj, rfl⟩ := List.getElem_of_mem hr
        have := HL.out j (by rw [HN.out] at hj; exact hj)
        rw [HM.out]
        simp [hj] at this
        simp [this]
      have HE2 : Hid (E = if 100 < i ∨ 100 < m then 5 else if es.all (exB Q) = true ∧ (rs.any fun r => !r.all (elB P Q)) = false then 0 else 2) := hid (by rw [HE1.out, if_pos hX])
      clear hX HE1
      by_cases hb1 : 100 < i
      case pos =>
        have hE : E = 5 := by rw [HE2.out, if_pos (.inl hb1)]
        have HEE := hid hE
        have d1 : decide (100 < i) = true := by simpa using hb1
        clear hE
        go_wp2
        go_ret2
        exact HBad.out 5 HEE.out (by omega) _ (HU1.out.trans HU.out)
      have d1 : decide (100 < i) = false := by simpa using hb1
      by_cases hb2 : 100 < m
      case pos =>
        have hE : E = 5 := by rw [HE2.out, if_pos (.inr hb2)]
        have HEE := hid hE
        have d2 : decide (100 < m) = true := by simpa using hb2
        clear hE
        go_wp2
        go_ret2
        exact HBad.out 5 HEE.out (by omega) _ (HU1.out.trans HU.out)
      have d2 : decide (100 < m) = false := by simpa using hb2
      have HE3 : Hid (E = if es.all (exB Q) = true ∧ (rs.any fun r => !r.all (elB P Q)) = false then 0 else 2) := hid (by rw [HE2.out, if_neg (by omega)])
      have HB1 : Hid (∀ k, k < m → exB Q (es.getD k 0) = false → E = 2) := hid (fun k hk h => by
        rw [HE3.out, not_all (by rw [HM.out]; exact hk) h, if_neg (by simp)])
      have HB2 : Hid (∀ k j, k < m → j < i → elB P Q ((rs.getD j []).getD k 0) = false → E = 2) := hid (fun k j hk hj h => by
        rw [HE3.out, if_neg]
        rintro ⟨_, h3⟩
        have h4 := List.any_eq_false.1 h3 _ (rows_mem (i := j) (by rw [HN.out]; exact hj))
        rw [not_all (by rw [HL.out j hj]; exact hk) h] at h4
        simp at h4)
      clear HE2
      go_wp2_with fail
      go_loopw [9] (fun vi wr => ∃ k : Nat, k ≤ m ∧ vi = .int .i64 k ∧ Hid (∀ j, j < k → exB Q (es.getD j 0) = true) ∧ Hid (∀ j c, j < i → c < k → elB P Q ((rs.getD j []).getD c 0) = true) ∧ Hid (Up w1 wr)) (fun vi _ => m - (intOf vi).toNat)
      case atStart => exact ⟨0, by omega, rfl, hid (fun j hj => by omega), hid (fun j c hj hc => by omega), HU⟩
      case round =>
        clear HU
        obtain ⟨k, hkm, rfl, HXe, HXl, HU⟩ := hrel
        obtain ⟨c0, c1, c2⟩ := HG1.out.up HU.out
        by_cases hl : k < m
        · have hl1 : k < es.length := by rw [HM.out]; exact hl
          obtain ⟨b1, o1, rfl, k1⟩ := ints_cell HC2.out (HU1.out.trans HU.out) hl1
          have hB1 := HB1.out k hl
          have HS1 : Hid (exB Q (es.getD k 0) = true → ∀ j, j < k + 1 → exB Q (es.getD j 0) = true) := hid (fun h j hj => by
            rcases Nat.lt_or_ge j k with h3 | h3
            · exact HXe.out j h3
            · obtain rfl : j = k := by omega
              exact h)
          have HBk := hid hB1
          have HB2k := hid (fun j => HB2.out k j hl)
          clear hl1 hB1
          have f0 := cellF c0
          have f1 := cellF c1
          have f2 := cellF c2
          generalize es.getD k 0 = x at *
          have f3 := cellF k1
          have HM1 := hid (fun w' => rExponent_any P Q G x w')
          by_cases hx : exB Q x = true
          case neg =>
            have hx' : exB Q x = false := by simpa using hx
            have HEE := hid (HBk.out hx')
            rw [hx'] at HM1
            clear hx hx'
            go_wp2_with fail
            refine wp_region_up (by kernel_rfl) (by kernel_rfl) ?_
            repeat (go_big_quiet_step ((first
              | (go_at_call 45; exact Calls.up_of (HM1.out _)))))
            refine wpQuiet_nil ?_
            rintro _ ⟨p, rfl⟩
            go_wp2
            go_ret2
            exact HBad.out 2 HEE.out (by omega) _ (HU1.out.trans (HU.out.trans p.up))
          have Hx := hid hx
          rw [hx] at HM1
          clear hx
          go_wp2_with fail
          refine wp_region_up (by kernel_rfl) (by kernel_rfl) ?_
          repeat (go_big_quiet_step ((first
            | (go_at_call 45; exact Calls.up_of (HM1.out _)))))
          refine wpQuiet_nil ?_
          rintro _ ⟨p, rfl⟩
          have HU5 := hid (HU.out.trans p.up)
          clear f0 f1 f2 f3
          go_wp2_with fail
          go_loopw [10] (fun vi wr => ∃ j : Nat, j ≤ i ∧ vi = .int .i64 j ∧ Hid (∀ c, c < j → elB P Q ((rs.getD c []).getD k 0) = true) ∧ Hid (Up w1 wr)) (fun vi _ => i - (intOf vi).toNat)
          case atStart => exact ⟨0, by omega, rfl, hid (fun j hj => by omega), HU5⟩
          case round =>
            clear HU5 c0 c1 c2
            obtain ⟨j, hji, rfl, HXj, HU⟩ := hrel
            obtain ⟨c0, c1, c2⟩ := HG1.out.up HU.out
            by_cases hl2 : j < i
            · obtain ⟨b2, o2, u, rfl, k2, hIu⟩ := rows_cell HI1.out (HU1.out.trans HU.out) (by rw [HN.out]; exact hl2)
              obtain ⟨lu, ua, uc, hu, hcu⟩ := hIu
              subst hu
              have hkl : k < (rs.getD j []).length := by rw [HL.out j hl2]; exact hl
              obtain ⟨b3, o3, rfl, hc3⟩ := hcu (by intro h; rw [h] at hkl; simp at hkl)
              have k3 := hc3 k hkl
              rw [HL.out j hl2] at k2
              have HBj := hid (HB2k.out j hl2)
              have HSj : Hid (elB P Q ((rs.getD j []).getD k 0) = true → ∀ c, c < j + 1 → elB P Q ((rs.getD c []).getD k 0) = true) := hid (fun h c hc => by
                rcases Nat.lt_or_ge c j with h3 | h3
                · exact HXj.out c h3
                · obtain rfl : c = j := by omega
                  exact h)
              clear hkl hc3 lu hcu
              generalize (rs.getD j []).getD k 0 = y at *
              have f0 := cellF c0
              have f1 := cellF c1
              have f2 := cellF c2
              have f4 := cellF k2
              have f5 := cellF k3
              have HM2 := hid (fun w' => rMember_any P Q G y w' g1 (by omega) hQ)
              by_cases hy : elB P Q y = true
              · have Hy := hid hy
                rw [hy] at HM2
                clear hy
                go_wp2_with fail
                refine wp_region_up (by kernel_rfl) (by kernel_rfl) ?_
                repeat (go_big_quiet_step ((first
                  | (go_at_call 55; exact Calls.up_of (HM2.out _)))))
                refine wpQuiet_nil ?_
                rintro _ ⟨p, rfl⟩
                have HU6 := hid (HU.out.trans p.up)
                clear f0 f1 f2 f4 f5
                go_wp2_with fail
                go_roundw
                case rel => exact ⟨j + 1, by omega, by go_num, hid (HSj.out Hy.out), HU6⟩
                case measure => simp [intOf]; omega
              · have hy' : elB P Q y = false := by simpa using hy
                have HEE := hid (HBj.out hy')
                rw [hy'] at HM2
                clear hy hy'
                go_wp2_with fail
                refine wp_region_up (by kernel_rfl) (by kernel_rfl) ?_
                repeat (go_big_quiet_step ((first
                  | (go_at_call 55; exact Calls.up_of (HM2.out _)))))
                refine wpQuiet_nil ?_
                rintro _ ⟨p, rfl⟩
                go_wp2
                go_ret2
                exact HBad.out 2 HEE.out (by omega) _ (HU1.out.trans (HU.out.trans p.up))
            · obtain rfl : j = i := by omega
              have HXl2 : Hid (∀ q c, q < j → c < k + 1 → elB P Q ((rs.getD q []).getD c 0) = true) := hid (fun q c hq hc => by
                rcases Nat.lt_or_ge c k with h3 | h3
                · exact HXl.out q c hq h3
                · obtain rfl : c = k := by omega
                  exact HXj.out q hq)
              go_wp2_with fail
              go_roundw
              case rel => exact ⟨k + 1, by omega, by go_num, hid (HS1.out Hx.out), HXl2, HU⟩
              case measure => simp [intOf]; omega
        · obtain rfl : k = m := by omega
          have hAllE : es.all (exB Q) = true := all_ofR (by rw [HM.out]; exact HXe.out)
          have HRow : Hid (∀ q, q < i → (∀ b ∈ rs.getD q [], elB P Q b = true) ∧ es.length = (rs.getD q []).length) := hid (fun q hq => by
            refine ⟨fun b hb => ?_, by rw [HM.out, HL.out q hq]⟩
            obtain ⟨c, hc, rfl⟩ := List.getElem_of_mem hb
            rw [show (rs.getD q [])[c] = (rs.getD q []).getD c 0 by rw [List.getD_eq_getElem?_getD (l := rs.getD q []), List.getElem?_eq_getElem hc]; rfl]
            exact HXl.out q c hq (by rw [HL.out q hq] at hc; exact hc))
          have hr : (rs.any fun r => !r.all (elB P Q)) = false := by
            rw [List.any_eq_false]
            intro r hr
            obtain ⟨q, hq, rfl⟩ := List.getElem_of_mem hr
            have := (HRow.out q (by rw [HN.out] at hq; exact hq)).1
            rw [show rs[q] = rs.getD q [] by rw [List.getD_eq_getElem?_getD, List.getElem?_eq_getElem hq]; rfl]
            rw [List.all_eq_true.2 this]
            simp
          have hE : E = 0 := by
            rw [HE3.out, if_pos ⟨hAllE, hr⟩]
          have HAE := hid hAllE
          have HOk : Hid (∀ v w', OwnI w' w.heap.size v (rsL P Q rs es) → Up w w' → RowsOut P Q G rs es w (.returned (.tuple #[v, .int .i64 0])) w') := hid (fun v w' h hU => by
            rw [HO.out]
            exact ⟨v, by rw [hE], by rw [if_pos hE]; exact h, hU⟩)
          clear hE hAllE c0 c1 c2
          obtain ⟨w4, hw4⟩ : ∃ w4, w4 = wr := ⟨_, rfl⟩
          subst hw4
          obtain ⟨B4, hB4⟩ : ∃ B, w4.heap.size = B := ⟨_, rfl⟩
          have HB4 := hid hB4
          have HU4 := hid (HU1.out.trans HU.out)
          have HG4 := hid (HG1.out.up HU.out)
          have hs4 : o < w4.heap.size := cell_lt HG4.out.1
          have hsw : w.heap.size ≤ w4.heap.size := HU4.out.size
          rw [hB4] at hs4 hsw
          clear hB4
          go_wp2_with fail
          go_loopw [11, 12] (fun vo vi wq => ∃ q : Nat, q ≤ i ∧ vi = .int .i64 q ∧ Hid (OwnI wq B4 vo (rsL P Q (rs.take q) es)) ∧ Hid (Up w4 wq)) (fun _ vi _ => i - (intOf vi).toNat)
          case atStart => exact ⟨0, by omega, rfl, hid (own_nil _ _), hid (Up.refl w4)⟩
          case round =>
            obtain ⟨q, hqn, rfl, HOw, HUq⟩ := hrel
            obtain ⟨c0, c1, c2⟩ := HG4.out.up HUq.out
            by_cases hl : q < i
            · have hl1 : q < rs.length := by rw [HN.out]; exact hl
              obtain ⟨b1, o1, u, rfl, k1, hIu⟩ := rows_cell HI1.out (HU4.out.trans HUq.out) hl1
              obtain ⟨hr1, hr2⟩ := HRow.out q hl
              have HIu := hid hIu
              have HR1 := hid hr1
              have HR2 := hid hr2
              have HTk := hid (rsL_take P Q rs es hl1)
              have hlen : (rsL P Q (rs.take q) es).length = q := by simp [rsL]; omega
              have HLen := hid hlen
              have hb1 : b1 < B4 := by
                obtain ⟨b', o', u', hb', hk', _⟩ := rows_cell HI1.out (Up.refl w) hl1
                injection hb' with hb'
                injection hb' with e1 e2 e3
                have := cell_lt hk'
                omega
              clear hl1 hIu hr1 hr2 hlen
              obtain ⟨_, ua, uc, hu, _⟩ := HIu.out
              subst hu
              generalize rs.getD q [] = r at *
              have hlu : r.length = k := by rw [← HR2.out, HM.out]
              rw [hlu] at HIu k1
              clear hlu
              obtain ⟨p0, n0, cap0, rfl⟩ := HOw.out.slice
              obtain ⟨K, hK⟩ : ∃ K, pfold P Q 1 r es = K := ⟨_, rfl⟩
              have HK := hid hK
              rw [hK] at HTk
              clear hK
              go_wp2_with fail
              have hS0 := And.intro c0 (And.intro c1 (And.intro c2 (And.intro k1 HUq)))
              clear c0 c1 c2 k1
              go_region_held3 (fun w' => w'.cell? ⟨o, 0, none⟩ = some (.int .i64 P) ∧ w'.cell? ⟨o, 1, none⟩ = some (.int .i64 Q) ∧ w'.cell? ⟨o, 2, none⟩ = some (.int .i64 G) ∧ w'.cell? ⟨b1, o1 + q, none⟩ = some (.slice ua k uc) ∧ Hid (Up w4 w')) (first | exact keepC4 ((Up.refl _).drew) (by assumption) | exact keepC4 ((Up.refl _).alloc _) (by assumption) | exact keepC4 (by assumption) (by assumption) | exact keepGrown HB4.out hs4 hs4 hs4 hb1 (by assumption) (fun k hk => HOw.out.block k hk) (by assumption)) (first
                | (go_at_call 98; refine (rproduct_ok P Q G _ _ r es _ hQ Hg.out HR1.out (ex_range hQ HAE.out) HR2.out (HIu.out.up (by first | exact Up.refl _ | exact (Up.refl _).drew | exact (Up.refl _).drew.drew | exact (Up.refl _).drew.drew.drew)) (HI2.out.up (HU4.out.trans (up4 (by assumption))))).mono ?_; rintro e w9 ⟨rfl, hU9⟩; rw [HK.out]; have hz9 : B4 ≤ w9.heap.size := (by have h1 := HB4.out; have h2 := hU9.size; have h3 := (up4 (by assumption : _ ∧ _ ∧ _ ∧ _ ∧ Hid (Up w4 _))).size; first | (simp at h2 h3; omega) | omega); have HO9 := hid (HOw.out.up (Up.trans (by first | exact Up.refl _ | exact (Up.refl _).drew | exact (Up.refl _).drew.drew | exact (Up.refl _).drew.drew.drew) hU9)))
                | (refine step_append_lies _ (by rfl) _ _ _ (by rfl) B4 3 i0 _ 1 8 Tryd.underlying36 hi hz0 hz1 hz2 rfl (by omega) _ q (List.map (Value.int .i64) (rsL P Q (List.take q rs) es)) (by rfl) (by first | exact (HO9.out.row HLen.out).alloc _ | exact ((HO9.out.row HLen.out).alloc _).drew | exact ((HO9.out.row HLen.out).drew.alloc _).drew | exact ((HO9.out.row HLen.out).drew.alloc _)) ⟨_, 0, none⟩ 1 1 [.int .i64 K] (by rfl) (by rfl) (World.news_of_block (cs := #[.int .i64 K]) (heap_alloc_new _ _)) (by simp [Value.oneCell']) (by omega) (by unfold maxLen; omega) (by omega) (by simp; omega) _ rfl ?_; intro gg cap w10 hown10 hgrow hat hlt))
              all_goals (
                have hUA := up4 (by assumption : _ ∧ _ ∧ _ ∧ _ ∧ Hid (Up w4 w10))
                have hOA := (appended HLen.out HO9.out hown10 hgrow (HU4.out.trans (HUq.out.trans ((Up.refl _).drew.trans hU9))) hsw hz9).1
                rw [← HTk.out] at hOA
                have HOA := hid hOA
                have HUA := hid hUA
                clear hOA hUA hown10 hgrow hat hlt hU9 hS0
                go_wp2_with fail
                go_roundw)
              case rel => exact ⟨q + 1, by omega, by go_num, HOA, HUA⟩
              case measure => simp [intOf]; omega
            · obtain rfl : q = i := by omega
              have hL : rsL P Q (rs.take q) es = rsL P Q rs es := by rw [List.take_of_length_le (by rw [HN.out]; exact Nat.le_refl _)]
              go_wp2_with fail
              go_ret2
              rw [hL] at HOw
              refine HOk.out _ _ ?_ (HU4.out.trans HUq.out)
              exact HOw.out.mono (by rw [HOo.out]; omega)
end Go.Proofs.YtldodbffdegmiaaDoor
