/- PedersenSums: the walk. -/
import Derived.Test.YtldodbffdegmiaaDoorPedF
namespace Go.Proofs.YtldodbffdegmiaaDoor
open Go.RowKit Go.Sp
set_option maxHeartbeats 8000000
set_option maxRecDepth 20000

theorem rSum_ok (P Q G A B C : Int) (v1 v2 : Value) (bs es : List Int) (w : World) (hQ : Q ≤ 9223372036854775807) (hg : gvB P Q G = true) (hb : ∀ x ∈ bs, elB P Q x = true) (he : ∀ x ∈ es, -9223372036854775808 ≤ x ∧ x ≤ 9223372036854775807) (hl : es.length = bs.length)
    (h1 : IntsAt w v1 bs) (h2 : IntsAt w v2 es) :
    Calls Tryd.prog 75 #[bas P Q G A B C, v1, v2] w fun e w' => e = .returned (.int .i64 (pfold P Q 1 bs es)) ∧ Up w w' := by
  have g := gv_iff.1 hg
  have g1 := g.P61
  have g2 := g.P4
  have g3 := g.Q3
  have g4 := g.QP
  obtain ⟨l1, a1, cp1, rfl, hc1⟩ := h1
  obtain ⟨l2, a2, cp2, rfl, hc2⟩ := h2
  have HC1 := hid hc1
  have HC2 := hid hc2
  have HE := hid he
  have HB := hid hb
  have HL := hid hl
  obtain ⟨n, hn⟩ : ∃ n, bs.length = n := ⟨_, rfl⟩
  rw [hl]
  rw [hn] at l1
  rw [hn]
  have HN := hid hn
  obtain ⟨R, hR⟩ : ∃ R, pfold P Q 1 bs es = R := ⟨_, rfl⟩
  have HR := hid hR
  rw [hR]
  clear g hc1 hc2 he hb hl l2 hn hR hg
  go_enter Tryd.func75, Tryd.ntmps75
  go_wp2_with fail
  have HG0 := hid (bas_reads (w := w) (P := P) (Q := Q) (G := G) (A := A) (B := B) (C := C) rfl (Up.refl _))
  have HU0 := hid ((Up.refl w).alloc (.cells #[.int .i64 P, .int .i64 Q, .int .i64 G, .int .i64 A, .int .i64 B, .int .i64 C] 73))
  obtain ⟨o, ho⟩ : ∃ o, w.heap.size = o := ⟨_, rfl⟩
  rw [ho] at HG0
  rw [ho]
  clear ho
  go_loopw [7, 8] (fun vo vi wr => ∃ (i : Nat) (a : Int), i ≤ n ∧ vi = .int .i64 i ∧ vo = .int .i64 a ∧ Hid (R = pfold P Q a (bs.drop i) (es.drop i)) ∧ Hid (elB P Q a = true) ∧ Hid (Up w wr) ∧ Hid (BasAt wr o P Q G A B C)) (fun _ vi _ => n - (intOf vi).toNat)
  case atStart => exact ⟨0, 1, by omega, rfl, rfl, hid (by rw [← HR.out]; rfl), hid (el_one (by omega)), HU0, HG0⟩
  case round =>
    obtain ⟨i, a, hi, rfl, rfl, HD, HA, HU, HGr⟩ := hrel
    by_cases hl : i < n
    · have hl1 : i < bs.length := by rw [HN.out]; exact hl
      have hl2 : i < es.length := by rw [HL.out]; exact hl1
      obtain ⟨b1, o1, rfl, k1⟩ := ints_cell HC1.out HU.out hl1
      obtain ⟨b2, o2, rfl, k2⟩ := ints_cell HC2.out HU.out hl2
      have HD2 : Hid (R = pfold P Q (a * gpw P Q (bs.getD i 0) (es.getD i 0) % P) (bs.drop (i + 1)) (es.drop (i + 1))) := hid (by rw [HD.out, drop_step hl1, drop_step hl2]; rfl)
      have HX := hid (HB.out _ (getD_mem hl1))
      obtain ⟨y0, y1⟩ := HE.out _ (getD_mem hl2)
      clear hl1 hl2 HD
      generalize bs.getD i 0 = x at *
      generalize es.getD i 0 = y at *
      obtain ⟨z, hz⟩ : ∃ z, gpw P Q x y = z := ⟨_, rfl⟩
      have HZ := hid hz
      have HZe := hid (gpw_el (by omega) (by omega) HX.out y)
      rw [hz] at HD2 HZe
      have HAn := hid (el_mul (by omega) (by omega) HA.out HZe.out)
      obtain ⟨x0, x1, _⟩ := el_iff.1 HX.out
      obtain ⟨z0, z1, _⟩ := el_iff.1 HZe.out
      obtain ⟨a0, a1', _⟩ := el_iff.1 HA.out
      have HPw : Hid (∀ w', Calls Tryd.prog 29 #[grp P Q G, .int .i64 x, .int .i64 y] w' fun e w'' => e = .returned (.int .i64 z) ∧ Up w' w'') := hid (fun w' => by
        have h := rgPower_ok P Q G x y w' (by omega) x1 y0 y1 g1 (by omega) (by omega)
        rw [HZ.out] at h
        exact h)
      clear hz
      go_wp2_with fail
      obtain ⟨f0, f1, f2, f3, f4, f5⟩ := HGr.out.from
      have f6 := cellF k1
      have f7 := cellF k2
      clear k1 k2
      refine wp_region_up (by kernel_rfl) (by kernel_rfl) ?_
      repeat (go_big_quiet_step ((first
        | (go_at_call 29; exact Calls.up_of (HPw.out _))
        | (go_at_call 30; exact Calls.up_of (rgMul_ok P Q G a z _ (by omega) a1' (by omega) z1 g1)))))
      refine wpQuiet_nil ?_
      rintro _ ⟨p, rfl⟩
      have HU3 := hid (HU.out.trans p.up)
      have HG3 := hid (HGr.out.up p.up)
      clear f0 f1 f2 f3 f4 f5 f6 f7
      go_wp2_with fail
      go_roundw
      case rel => exact ⟨i + 1, _, by omega, by go_num, rfl, HD2, HAn, HU3, HG3⟩
      case measure => simp [intOf]; omega
    · obtain rfl : i = n := by omega
      have HE2 : Hid (R = a) := hid (by rw [HD.out, List.drop_eq_nil_of_le (by rw [HN.out]; omega)]; rfl)
      go_wp2
      go_ret
      exact ⟨by rw [HE2.out]; rfl, HU.out⟩

theorem PedersenSums_walk (P Q G A B C c d k : Int) (v1 v2 : Value) (ls ws : List Int) (w : World) (hP : -9223372036854775808 ≤ P) (hQ : Q ≤ 9223372036854775807) (hT : Tab w) (h1 : IntsAt w v1 ls) (h2 : IntsAt w v2 ws) (k1 : Room v1) (k2 : Room v2) :
    Calls Tryd.prog 17 #[bas P Q G A B C, .int .i64 c, .int .i64 d, .int .i64 k, v1, v2] w fun e w' => e = .returned (.bool true) ∧ Up w w' := by
  have HT := hid hT
  have HI1 := hid h1
  have HI2 := hid h2
  have HAd := hid (fun w' (hU : Up w w') => Add_any P Q G A B C c d w' hP hQ (hT.up hU))
  have HSc := hid (fun w' (hU : Up w w') => Scale_any P Q G A B C c k w' hP hQ (hT.up hU))
  have HSu := hid (fun w' (hU : Up w w') => Sum_any P Q G A B C v1 v2 ls ws w' hP hQ (hT.up hU) (h1.up hU) (h2.up hU) k1 k2)
  obtain ⟨E1, hE1⟩ : ∃ E, givE P Q G A B C [] [c, d] = E := ⟨_, rfl⟩
  rw [hE1] at HAd
  obtain ⟨R1, hR1⟩ : ∃ R, (if E1 = 0 then c * d % P else 0) = R := ⟨_, rfl⟩
  rw [hR1] at HAd
  obtain ⟨E2, hE2⟩ : ∃ E, givE P Q G A B C [k] [c] = E := ⟨_, rfl⟩
  rw [hE2] at HSc
  obtain ⟨R2, hR2⟩ : ∃ R, (if E2 = 0 then gpw P Q c k else 0) = R := ⟨_, rfl⟩
  rw [hR2] at HSc
  obtain ⟨E3, hE3⟩ : ∃ E, sumE P Q G A B C ls ws = E := ⟨_, rfl⟩
  obtain ⟨R3, hR3⟩ : ∃ R, sumV P Q G A B C ls ws = R := ⟨_, rfl⟩
  rw [hE3, hR3] at HSu
  have HE1 := hid hE1
  have HR1 := hid hR1
  have HE2 := hid hE2
  have HR2 := hid hR2
  have HE3 := hid hE3
  have HR3 : Hid ((if E3 = 0 then pfold P Q 1 ls ws else 0) = R3) := hid (by rw [← hR3, sumV, hE3])
  obtain ⟨l1, a1, cp1, rfl, _⟩ := h1
  obtain ⟨l2, a2, cp2, rfl, _⟩ := h2
  obtain ⟨n, hn⟩ : ∃ n, ls.length = n := ⟨_, rfl⟩
  obtain ⟨m, hm⟩ : ∃ m, ws.length = m := ⟨_, rfl⟩
  have HN := hid hn
  have HM := hid hm
  rw [hn] at HI1 HSu l1
  rw [hm] at HI2 HSu l2
  rw [hn, hm]
  clear hT hE1 hR1 hE2 hR2 hE3 hR3 k1 k2 hn hm
  go_enter Tryd.func17, Tryd.ntmps17
  go_wp2_with fail
  refine (awake15 _ (HT.out.up ((Up.refl w).alloc _))).mono ?_
  rintro e w1 ⟨rfl, hU1⟩
  have HA1 := hid (bas_reads (o := .cells #[.int .i64 P, .int .i64 Q, .int .i64 G, .int .i64 A, .int .i64 B, .int .i64 C] 73) rfl hU1)
  have HU1 := hid (((Up.refl w).alloc _).trans hU1)
  clear hU1
  by_cases q : (20 < n ∧ n ≤ 1000) ∨ 1100 < n ∨ 1100 < m
  case pos =>
    by_cases q1 : 20 < n
    all_goals by_cases q2 : n ≤ 1000
    all_goals by_cases q3 : 1100 < n
    all_goals by_cases q4 : 1100 < m
    all_goals first | (exfalso; omega; done) | skip
    all_goals
      first | (have d1 : decide (20 < n) = true := by simpa using q1) | (have d1 : decide (20 < n) = false := by simpa using q1)
      first | (have d2 : decide (n ≤ 1000) = true := by simpa using q2) | (have d2 : decide (n ≤ 1000) = false := by simpa using q2)
      first | (have d3 : decide (1100 < n) = true := by simpa using q3) | (have d3 : decide (1100 < n) = false := by simpa using q3)
      first | (have d4 : decide (1100 < m) = true := by simpa using q4) | (have d4 : decide (1100 < m) = false := by simpa using q4)
      clear q
      go_wp2_with fail
      refine (awake15 _ (HT.out.up HU1.out)).mono ?_
      rintro e w2 ⟨rfl, hU2⟩
      go_wp2
      go_ret
      exact ⟨rfl, HU1.out.trans hU2⟩
  obtain ⟨d3, d4, d5⟩ : decide (1100 < n) = false ∧ decide (1100 < m) = false ∧ (n ≤ 20 ∨ 1000 < n) := by simp; omega
  have hn11 : n ≤ 1100 := by omega
  have hm11 : m ≤ 1100 := by omega
  clear q
  rcases d5 with d5 | d5
  · obtain ⟨⟨c0, c1, c2⟩, c3, c4, c5⟩ := HA1.out
    go_wp2_with fail
    refine (HAd.out _ HU1.out).mono ?_
    rintro e w2 ⟨rfl, hU2⟩
    clear c0 c1 c2 c3 c4 c5
    have HA2 := hid (HA1.out.up hU2)
    have HU2 := hid (HU1.out.trans hU2)
    clear hU2
    obtain ⟨⟨c0, c1, c2⟩, c3, c4, c5⟩ := HA2.out
    go_wp2_with fail
    refine (HSc.out _ HU2.out).mono ?_
    rintro e w3 ⟨rfl, hU3⟩
    clear c0 c1 c2 c3 c4 c5
    have HA3 := hid (HA2.out.up hU3)
    have HU3 := hid (HU2.out.trans hU3)
    clear hU3
    obtain ⟨⟨c0, c1, c2⟩, c3, c4, c5⟩ := HA3.out
    go_wp2_with fail
    refine (HSu.out _ HU3.out).mono ?_
    rintro e w4 ⟨rfl, hU4⟩
    clear c0 c1 c2 c3 c4 c5
    have HA4 := hid (HA3.out.up hU4)
    have HU4 := hid (HU3.out.trans hU4)
    clear hU4
    obtain ⟨⟨c0, c1, c2⟩, c3, c4, c5⟩ := HA4.out
    go_wp2_with fail
    refine (rbValid_any P Q G A B C _ hP hQ).mono ?_
    rintro e w5 ⟨rfl, hU5⟩
    clear c0 c1 c2 c3 c4 c5
    have HA5 := hid (HA4.out.up hU5)
    have HU5 := hid (HU4.out.trans hU5)
    clear hU5
    obtain ⟨⟨c0, c1, c2⟩, c3, c4, c5⟩ := HA5.out
    by_cases hb : bvB P Q G A B C = true
    case neg =>
      have hb' : bvB P Q G A B C = false := by simpa using hb
      have e1 : E1 = 1 := by rw [← HE1.out, givE, if_neg hb]
      have e2 : E2 = 1 := by rw [← HE2.out, givE, if_neg hb]
      have e3 : E3 = 1 := by rw [← HE3.out, sumE, if_neg (fun h => hb h.1)]
      subst e1 e2 e3
      have r1 : R1 = 0 := HR1.out.symm
      have r2 : R2 = 0 := HR2.out.symm
      have r3 : R3 = 0 := HR3.out.symm
      subst r1 r2 r3
      rw [hb']
      clear hb hb'
      go_wp2
      go_ret
      exact ⟨rfl, HU5.out⟩
    have Hb := hid hb
    obtain ⟨hg, _⟩ := bv_iff.1 hb
    have g := gv_iff.1 hg
    have g1 := g.P61
    have g2 := g.P4
    have g3 := g.Q3
    have g4 := g.QP
    have Hg := hid hg
    rw [hb]
    clear hb g hg
    have hs5 := cell_lt c0
    go_wp2_with fail
    have HBb := hid (box_reads (w := w5) (P := P) (Q := Q) (G := G) rfl ((Up.refl _).alloc (.cells #[.int .i64 c, .int .i64 d] 3)))
    refine (rMembers_any P Q G _ [c, d] _ g1 (by omega) hQ (ints_two (by go_simp) (by go_simp))).mono ?_
    rintro e w6 ⟨rfl, hU6⟩
    have HA6 := hid (HA5.out.up ((((Up.refl w5).alloc _).alloc _).trans hU6))
    have HB6 := hid (HBb.out.up hU6)
    have HU6 := hid (HU5.out.trans ((((Up.refl w5).alloc _).alloc _).trans hU6))
    clear hU6 c0 c1 c2 c3 c4 c5 hs5
    obtain ⟨⟨c0, c1, c2⟩, c3, c4, c5⟩ := HA6.out
    obtain ⟨e0, e1, e2⟩ := HB6.out
    by_cases hm : [c, d].all (elB P Q) = true
    · simp only [List.all_cons, List.all_nil, Bool.and_true, Bool.and_eq_true] at hm
      obtain ⟨hc, hd⟩ := hm
      obtain ⟨x0, x1, _⟩ := el_iff.1 hc
      obtain ⟨y0, y1, _⟩ := el_iff.1 hd
      have z1 : E1 = 0 := by rw [← HE1.out]; exact giv_zero.2 ⟨Hb.out, by simp, by simp [hc, hd]⟩
      subst z1
      have HR1b : Hid (c * d % P = R1) := hid HR1.out
      have Hc := hid hc
      rw [show [c, d].all (elB P Q) = true by simp [hc, hd]]
      clear hc hd
      go_wp2_with fail
      refine (rgMul_ok P Q G c d _ (by omega) x1 (by omega) y1 g1).mono ?_
      rintro e w7 ⟨rfl, hU7⟩
      clear c0 c1 c2 c3 c4 c5 e0 e1 e2
      have HA7 := hid (HA6.out.up hU7)
      have HB7 := hid (HB6.out.up hU7)
      have HU7 := hid (HU6.out.trans hU7)
      clear hU7
      obtain ⟨⟨c0, c1, c2⟩, c3, c4, c5⟩ := HA7.out
      obtain ⟨e0, e1, e2⟩ := HB7.out
      rw [HR1b.out]
      go_wp2_with fail
      refine (rMember_any P Q G c _ g1 (by omega) hQ).mono ?_
      rintro e w8 ⟨rfl, hU8⟩
      clear c0 c1 c2 c3 c4 c5 e0 e1 e2
      have HA8 := hid (HA7.out.up hU8)
      have HB8 := hid (HB7.out.up hU8)
      have HU8 := hid (HU7.out.trans hU8)
      clear hU8
      obtain ⟨⟨c0, c1, c2⟩, c3, c4, c5⟩ := HA8.out
      obtain ⟨e0, e1, e2⟩ := HB8.out
      rw [Hc.out]
      go_wp2_with fail
      refine (rScalar_any P Q G k _).mono ?_
      rintro e w9 ⟨rfl, hU9⟩
      clear c0 c1 c2 c3 c4 c5 e0 e1 e2
      have HA9 := hid (HA8.out.up hU9)
      have HB9 := hid (HB8.out.up hU9)
      have HU9 := hid (HU8.out.trans hU9)
      clear hU9
      obtain ⟨⟨c0, c1, c2⟩, c3, c4, c5⟩ := HA9.out
      obtain ⟨e0, e1, e2⟩ := HB9.out
      by_cases hk : exB Q k = true
      · obtain ⟨k0, k1⟩ := exB_iff.1 hk
        have z2 : E2 = 0 := by rw [← HE2.out]; exact giv_zero.2 ⟨Hb.out, by simp [hk], by simp [Hc.out]⟩
        subst z2
        have HR2b : Hid (gpw P Q c k = R2) := hid HR2.out
        rw [hk]
        clear hk
        go_wp2_with fail
        refine (rgPower_ok P Q G c k _ (by omega) x1 (by omega) (by omega) g1 (by omega) (by omega)).mono ?_
        rintro e w10 ⟨rfl, hU10⟩
        clear c0 c1 c2 c3 c4 c5 e0 e1 e2
        have HA10 := hid (HA9.out.up hU10)
        have HB10 := hid (HB9.out.up hU10)
        have HU10 := hid (HU9.out.trans hU10)
        clear hU10
        obtain ⟨⟨c0, c1, c2⟩, c3, c4, c5⟩ := HA10.out
        obtain ⟨e0, e1, e2⟩ := HB10.out
        rw [HR2b.out]
        by_cases hnm : n = m
        case neg =>
          have z3 : E3 = 1 := by rw [← HE3.out, sumE, if_neg (fun h => hnm (by rw [← HN.out, ← HM.out]; exact h.2.1))]
          subst z3
          have r3 : R3 = 0 := HR3.out.symm
          subst r3
          have q1 : (n != m) = true := by simpa using hnm
          have q2 : ((n : Int) != (m : Int)) = true := by simp; omega
          clear hnm
          go_wp2
          go_ret
          exact ⟨rfl, HU10.out⟩
        obtain rfl := hnm
        have HE3b : Hid (E3 = if ws.all (exB Q) = true ∧ ls.all (elB P Q) = true then 0 else 2) := hid (by rw [← HE3.out, sumE, if_pos ⟨Hb.out, by rw [HN.out, HM.out], by rw [HN.out]; omega⟩])
        go_wp2_with fail
        refine (rMembers_any P Q G _ ls _ g1 (by omega) hQ (HI1.out.up HU10.out)).mono ?_
        rintro e wA ⟨rfl, hUA⟩
        have HAA := hid (HA10.out.up hUA)
        have HUA := hid (HU10.out.trans hUA)
        have HBA := hid (HB10.out.up hUA)
        clear hUA c0 c1 c2 c3 c4 c5 e0 e1 e2
        obtain ⟨e0, e1, e2⟩ := HBA.out
        by_cases hls : ls.all (elB P Q) = true
        case neg =>
          have hls' : ls.all (elB P Q) = false := by simpa using hls
          have z3 : E3 = 2 := by rw [HE3b.out, if_neg (fun h => hls h.2)]
          subst z3
          have r3 : R3 = 0 := HR3.out.symm
          subst r3
          rw [hls']
          clear hls hls'
          go_wp2
          go_ret
          exact ⟨rfl, HUA.out⟩
        have Hls := hid hls
        rw [hls]
        clear hls
        go_wp2_with fail
        refine (rScalars_any P Q G _ ws _ (HI2.out.up HUA.out)).mono ?_
        rintro e wB ⟨rfl, hUB⟩
        have HUB := hid (HUA.out.trans hUB)
        have HAB := hid (HAA.out.up hUB)
        clear hUB e0 e1 e2
        by_cases hws : ws.all (exB Q) = true
        case neg =>
          have hws' : ws.all (exB Q) = false := by simpa using hws
          have z3 : E3 = 2 := by rw [HE3b.out, if_neg (fun h => hws h.1)]
          subst z3
          have r3 : R3 = 0 := HR3.out.symm
          subst r3
          rw [hws']
          clear hws hws'
          go_wp2
          go_ret
          exact ⟨rfl, HUB.out⟩
        have Hws := hid hws
        have z3 : E3 = 0 := by rw [HE3b.out, if_pos ⟨hws, Hls.out⟩]
        subst z3
        have HR3b : Hid (pfold P Q 1 ls ws = R3) := hid HR3.out
        rw [hws]
        clear hws
        obtain ⟨⟨c0, c1, c2⟩, c3, c4, c5⟩ := HAB.out
        go_wp2_with fail
        refine (rSum_ok P Q G A B C _ _ ls ws _ hQ Hg.out (List.all_eq_true.1 Hls.out) (ex_range hQ Hws.out) (by rw [HN.out, HM.out]) (HI1.out.up HUB.out) (HI2.out.up HUB.out)).mono ?_
        rintro e wC ⟨rfl, hUC⟩
        rw [HR3b.out]
        go_wp2
        go_ret
        exact ⟨rfl, HUB.out.trans hUC⟩
      · have hk' : exB Q k = false := by simpa using hk
        have z2 : E2 = 2 := by rw [← HE2.out, givE, if_pos Hb.out, if_neg (by simp [hk'])]
        subst z2
        have r2 : R2 = 0 := HR2.out.symm
        subst r2
        rw [hk']
        clear hk hk'
        by_cases hnm : n = m
        case neg =>
          have z3 : E3 = 1 := by rw [← HE3.out, sumE, if_neg (fun h => hnm (by rw [← HN.out, ← HM.out]; exact h.2.1))]
          subst z3
          have r3 : R3 = 0 := HR3.out.symm
          subst r3
          have q1 : (n != m) = true := by simpa using hnm
          have q2 : ((n : Int) != (m : Int)) = true := by simp; omega
          clear hnm
          go_wp2
          go_ret
          exact ⟨rfl, HU9.out⟩
        obtain rfl := hnm
        have HE3b : Hid (E3 = if ws.all (exB Q) = true ∧ ls.all (elB P Q) = true then 0 else 2) := hid (by rw [← HE3.out, sumE, if_pos ⟨Hb.out, by rw [HN.out, HM.out], by rw [HN.out]; omega⟩])
        go_wp2_with fail
        refine (rMembers_any P Q G _ ls _ g1 (by omega) hQ (HI1.out.up HU9.out)).mono ?_
        rintro e wA ⟨rfl, hUA⟩
        have HAA := hid (HA9.out.up hUA)
        have HUA := hid (HU9.out.trans hUA)
        have HBA := hid (HB9.out.up hUA)
        clear hUA c0 c1 c2 c3 c4 c5 e0 e1 e2
        obtain ⟨e0, e1, e2⟩ := HBA.out
        by_cases hls : ls.all (elB P Q) = true
        case neg =>
          have hls' : ls.all (elB P Q) = false := by simpa using hls
          have z3 : E3 = 2 := by rw [HE3b.out, if_neg (fun h => hls h.2)]
          subst z3
          have r3 : R3 = 0 := HR3.out.symm
          subst r3
          rw [hls']
          clear hls hls'
          go_wp2
          go_ret
          exact ⟨rfl, HUA.out⟩
        have Hls := hid hls
        rw [hls]
        clear hls
        go_wp2_with fail
        refine (rScalars_any P Q G _ ws _ (HI2.out.up HUA.out)).mono ?_
        rintro e wB ⟨rfl, hUB⟩
        have HUB := hid (HUA.out.trans hUB)
        have HAB := hid (HAA.out.up hUB)
        clear hUB e0 e1 e2
        by_cases hws : ws.all (exB Q) = true
        case neg =>
          have hws' : ws.all (exB Q) = false := by simpa using hws
          have z3 : E3 = 2 := by rw [HE3b.out, if_neg (fun h => hws h.1)]
          subst z3
          have r3 : R3 = 0 := HR3.out.symm
          subst r3
          rw [hws']
          clear hws hws'
          go_wp2
          go_ret
          exact ⟨rfl, HUB.out⟩
        have Hws := hid hws
        have z3 : E3 = 0 := by rw [HE3b.out, if_pos ⟨hws, Hls.out⟩]
        subst z3
        have HR3b : Hid (pfold P Q 1 ls ws = R3) := hid HR3.out
        rw [hws]
        clear hws
        obtain ⟨⟨c0, c1, c2⟩, c3, c4, c5⟩ := HAB.out
        go_wp2_with fail
        refine (rSum_ok P Q G A B C _ _ ls ws _ hQ Hg.out (List.all_eq_true.1 Hls.out) (ex_range hQ Hws.out) (by rw [HN.out, HM.out]) (HI1.out.up HUB.out) (HI2.out.up HUB.out)).mono ?_
        rintro e wC ⟨rfl, hUC⟩
        rw [HR3b.out]
        go_wp2
        go_ret
        exact ⟨rfl, HUB.out.trans hUC⟩
    · have hm' : [c, d].all (elB P Q) = false := by simpa using hm
      have z1 : E1 = 2 := by rw [← HE1.out, givE, if_pos Hb.out, if_neg (by rw [hm']; simp)]
      subst z1
      have r1 : R1 = 0 := HR1.out.symm
      subst r1
      rw [hm']
      clear hm hm'
      go_wp2_with fail
      refine (rMember_any P Q G c _ g1 (by omega) hQ).mono ?_
      rintro e w8 ⟨rfl, hU8⟩
      clear c0 c1 c2 c3 c4 c5 e0 e1 e2
      have HA8 := hid (HA6.out.up hU8)
      have HB8 := hid (HB6.out.up hU8)
      have HU8 := hid (HU6.out.trans hU8)
      clear hU8
      obtain ⟨⟨c0, c1, c2⟩, c3, c4, c5⟩ := HA8.out
      obtain ⟨e0, e1, e2⟩ := HB8.out
      by_cases hc : elB P Q c = true
      · obtain ⟨x0, x1, _⟩ := el_iff.1 hc
        have Hc := hid hc
        rw [hc]
        clear hc
        go_wp2_with fail
        refine (rScalar_any P Q G k _).mono ?_
        rintro e w9 ⟨rfl, hU9⟩
        clear c0 c1 c2 c3 c4 c5 e0 e1 e2
        have HA9 := hid (HA8.out.up hU9)
        have HB9 := hid (HB8.out.up hU9)
        have HU9 := hid (HU8.out.trans hU9)
        clear hU9
        obtain ⟨⟨c0, c1, c2⟩, c3, c4, c5⟩ := HA9.out
        obtain ⟨e0, e1, e2⟩ := HB9.out
        by_cases hk : exB Q k = true
        · obtain ⟨k0, k1⟩ := exB_iff.1 hk
          have z2 : E2 = 0 := by rw [← HE2.out]; exact giv_zero.2 ⟨Hb.out, by simp [hk], by simp [Hc.out]⟩
          subst z2
          have HR2b : Hid (gpw P Q c k = R2) := hid HR2.out
          rw [hk]
          clear hk
          go_wp2_with fail
          refine (rgPower_ok P Q G c k _ (by omega) x1 (by omega) (by omega) g1 (by omega) (by omega)).mono ?_
          rintro e w10 ⟨rfl, hU10⟩
          clear c0 c1 c2 c3 c4 c5 e0 e1 e2
          have HA10 := hid (HA9.out.up hU10)
          have HB10 := hid (HB9.out.up hU10)
          have HU10 := hid (HU9.out.trans hU10)
          clear hU10
          obtain ⟨⟨c0, c1, c2⟩, c3, c4, c5⟩ := HA10.out
          obtain ⟨e0, e1, e2⟩ := HB10.out
          rw [HR2b.out]
          by_cases hnm : n = m
          case neg =>
            have z3 : E3 = 1 := by rw [← HE3.out, sumE, if_neg (fun h => hnm (by rw [← HN.out, ← HM.out]; exact h.2.1))]
            subst z3
            have r3 : R3 = 0 := HR3.out.symm
            subst r3
            have q1 : (n != m) = true := by simpa using hnm
            have q2 : ((n : Int) != (m : Int)) = true := by simp; omega
            clear hnm
            go_wp2
            go_ret
            exact ⟨rfl, HU10.out⟩
          obtain rfl := hnm
          have HE3b : Hid (E3 = if ws.all (exB Q) = true ∧ ls.all (elB P Q) = true then 0 else 2) := hid (by rw [← HE3.out, sumE, if_pos ⟨Hb.out, by rw [HN.out, HM.out], by rw [HN.out]; omega⟩])
          go_wp2_with fail
          refine (rMembers_any P Q G _ ls _ g1 (by omega) hQ (HI1.out.up HU10.out)).mono ?_
          rintro e wA ⟨rfl, hUA⟩
          have HAA := hid (HA10.out.up hUA)
          have HUA := hid (HU10.out.trans hUA)
          have HBA := hid (HB10.out.up hUA)
          clear hUA c0 c1 c2 c3 c4 c5 e0 e1 e2
          obtain ⟨e0, e1, e2⟩ := HBA.out
          by_cases hls : ls.all (elB P Q) = true
          case neg =>
            have hls' : ls.all (elB P Q) = false := by simpa using hls
            have z3 : E3 = 2 := by rw [HE3b.out, if_neg (fun h => hls h.2)]
            subst z3
            have r3 : R3 = 0 := HR3.out.symm
            subst r3
            rw [hls']
            clear hls hls'
            go_wp2
            go_ret
            exact ⟨rfl, HUA.out⟩
          have Hls := hid hls
          rw [hls]
          clear hls
          go_wp2_with fail
          refine (rScalars_any P Q G _ ws _ (HI2.out.up HUA.out)).mono ?_
          rintro e wB ⟨rfl, hUB⟩
          have HUB := hid (HUA.out.trans hUB)
          have HAB := hid (HAA.out.up hUB)
          clear hUB e0 e1 e2
          by_cases hws : ws.all (exB Q) = true
          case neg =>
            have hws' : ws.all (exB Q) = false := by simpa using hws
            have z3 : E3 = 2 := by rw [HE3b.out, if_neg (fun h => hws h.1)]
            subst z3
            have r3 : R3 = 0 := HR3.out.symm
            subst r3
            rw [hws']
            clear hws hws'
            go_wp2
            go_ret
            exact ⟨rfl, HUB.out⟩
          have Hws := hid hws
          have z3 : E3 = 0 := by rw [HE3b.out, if_pos ⟨hws, Hls.out⟩]
          subst z3
          have HR3b : Hid (pfold P Q 1 ls ws = R3) := hid HR3.out
          rw [hws]
          clear hws
          obtain ⟨⟨c0, c1, c2⟩, c3, c4, c5⟩ := HAB.out
          go_wp2_with fail
          refine (rSum_ok P Q G A B C _ _ ls ws _ hQ Hg.out (List.all_eq_true.1 Hls.out) (ex_range hQ Hws.out) (by rw [HN.out, HM.out]) (HI1.out.up HUB.out) (HI2.out.up HUB.out)).mono ?_
          rintro e wC ⟨rfl, hUC⟩
          rw [HR3b.out]
          go_wp2
          go_ret
          exact ⟨rfl, HUB.out.trans hUC⟩
        · have hk' : exB Q k = false := by simpa using hk
          have z2 : E2 = 2 := by rw [← HE2.out, givE, if_pos Hb.out, if_neg (by simp [hk'])]
          subst z2
          have r2 : R2 = 0 := HR2.out.symm
          subst r2
          rw [hk']
          clear hk hk'
          by_cases hnm : n = m
          case neg =>
            have z3 : E3 = 1 := by rw [← HE3.out, sumE, if_neg (fun h => hnm (by rw [← HN.out, ← HM.out]; exact h.2.1))]
            subst z3
            have r3 : R3 = 0 := HR3.out.symm
            subst r3
            have q1 : (n != m) = true := by simpa using hnm
            have q2 : ((n : Int) != (m : Int)) = true := by simp; omega
            clear hnm
            go_wp2
            go_ret
            exact ⟨rfl, HU9.out⟩
          obtain rfl := hnm
          have HE3b : Hid (E3 = if ws.all (exB Q) = true ∧ ls.all (elB P Q) = true then 0 else 2) := hid (by rw [← HE3.out, sumE, if_pos ⟨Hb.out, by rw [HN.out, HM.out], by rw [HN.out]; omega⟩])
          go_wp2_with fail
          refine (rMembers_any P Q G _ ls _ g1 (by omega) hQ (HI1.out.up HU9.out)).mono ?_
          rintro e wA ⟨rfl, hUA⟩
          have HAA := hid (HA9.out.up hUA)
          have HUA := hid (HU9.out.trans hUA)
          have HBA := hid (HB9.out.up hUA)
          clear hUA c0 c1 c2 c3 c4 c5 e0 e1 e2
          obtain ⟨e0, e1, e2⟩ := HBA.out
          by_cases hls : ls.all (elB P Q) = true
          case neg =>
            have hls' : ls.all (elB P Q) = false := by simpa using hls
            have z3 : E3 = 2 := by rw [HE3b.out, if_neg (fun h => hls h.2)]
            subst z3
            have r3 : R3 = 0 := HR3.out.symm
            subst r3
            rw [hls']
            clear hls hls'
            go_wp2
            go_ret
            exact ⟨rfl, HUA.out⟩
          have Hls := hid hls
          rw [hls]
          clear hls
          go_wp2_with fail
          refine (rScalars_any P Q G _ ws _ (HI2.out.up HUA.out)).mono ?_
          rintro e wB ⟨rfl, hUB⟩
          have HUB := hid (HUA.out.trans hUB)
          have HAB := hid (HAA.out.up hUB)
          clear hUB e0 e1 e2
          by_cases hws : ws.all (exB Q) = true
          case neg =>
            have hws' : ws.all (exB Q) = false := by simpa using hws
            have z3 : E3 = 2 := by rw [HE3b.out, if_neg (fun h => hws h.1)]
            subst z3
            have r3 : R3 = 0 := HR3.out.symm
            subst r3
            rw [hws']
            clear hws hws'
            go_wp2
            go_ret
            exact ⟨rfl, HUB.out⟩
          have Hws := hid hws
          have z3 : E3 = 0 := by rw [HE3b.out, if_pos ⟨hws, Hls.out⟩]
          subst z3
          have HR3b : Hid (pfold P Q 1 ls ws = R3) := hid HR3.out
          rw [hws]
          clear hws
          obtain ⟨⟨c0, c1, c2⟩, c3, c4, c5⟩ := HAB.out
          go_wp2_with fail
          refine (rSum_ok P Q G A B C _ _ ls ws _ hQ Hg.out (List.all_eq_true.1 Hls.out) (ex_range hQ Hws.out) (by rw [HN.out, HM.out]) (HI1.out.up HUB.out) (HI2.out.up HUB.out)).mono ?_
          rintro e wC ⟨rfl, hUC⟩
          rw [HR3b.out]
          go_wp2
          go_ret
          exact ⟨rfl, HUB.out.trans hUC⟩
      · have hc' : elB P Q c = false := by simpa using hc
        have z2 : E2 = 2 := by rw [← HE2.out, givE, if_pos Hb.out, if_neg (by simp [hc'])]
        subst z2
        have r2 : R2 = 0 := HR2.out.symm
        subst r2
        rw [hc']
        clear hc hc'
        by_cases hnm : n = m
        case neg =>
          have z3 : E3 = 1 := by rw [← HE3.out, sumE, if_neg (fun h => hnm (by rw [← HN.out, ← HM.out]; exact h.2.1))]
          subst z3
          have r3 : R3 = 0 := HR3.out.symm
          subst r3
          have q1 : (n != m) = true := by simpa using hnm
          have q2 : ((n : Int) != (m : Int)) = true := by simp; omega
          clear hnm
          go_wp2
          go_ret
          exact ⟨rfl, HU8.out⟩
        obtain rfl := hnm
        have HE3b : Hid (E3 = if ws.all (exB Q) = true ∧ ls.all (elB P Q) = true then 0 else 2) := hid (by rw [← HE3.out, sumE, if_pos ⟨Hb.out, by rw [HN.out, HM.out], by rw [HN.out]; omega⟩])
        go_wp2_with fail
        refine (rMembers_any P Q G _ ls _ g1 (by omega) hQ (HI1.out.up HU8.out)).mono ?_
        rintro e wA ⟨rfl, hUA⟩
        have HAA := hid (HA8.out.up hUA)
        have HUA := hid (HU8.out.trans hUA)
        have HBA := hid (HB8.out.up hUA)
        clear hUA c0 c1 c2 c3 c4 c5 e0 e1 e2
        obtain ⟨e0, e1, e2⟩ := HBA.out
        by_cases hls : ls.all (elB P Q) = true
        case neg =>
          have hls' : ls.all (elB P Q) = false := by simpa using hls
          have z3 : E3 = 2 := by rw [HE3b.out, if_neg (fun h => hls h.2)]
          subst z3
          have r3 : R3 = 0 := HR3.out.symm
          subst r3
          rw [hls']
          clear hls hls'
          go_wp2
          go_ret
          exact ⟨rfl, HUA.out⟩
        have Hls := hid hls
        rw [hls]
        clear hls
        go_wp2_with fail
        refine (rScalars_any P Q G _ ws _ (HI2.out.up HUA.out)).mono ?_
        rintro e wB ⟨rfl, hUB⟩
        have HUB := hid (HUA.out.trans hUB)
        have HAB := hid (HAA.out.up hUB)
        clear hUB e0 e1 e2
        by_cases hws : ws.all (exB Q) = true
        case neg =>
          have hws' : ws.all (exB Q) = false := by simpa using hws
          have z3 : E3 = 2 := by rw [HE3b.out, if_neg (fun h => hws h.1)]
          subst z3
          have r3 : R3 = 0 := HR3.out.symm
          subst r3
          rw [hws']
          clear hws hws'
          go_wp2
          go_ret
          exact ⟨rfl, HUB.out⟩
        have Hws := hid hws
        have z3 : E3 = 0 := by rw [HE3b.out, if_pos ⟨hws, Hls.out⟩]
        subst z3
        have HR3b : Hid (pfold P Q 1 ls ws = R3) := hid HR3.out
        rw [hws]
        clear hws
        obtain ⟨⟨c0, c1, c2⟩, c3, c4, c5⟩ := HAB.out
        go_wp2_with fail
        refine (rSum_ok P Q G A B C _ _ ls ws _ hQ Hg.out (List.all_eq_true.1 Hls.out) (ex_range hQ Hws.out) (by rw [HN.out, HM.out]) (HI1.out.up HUB.out) (HI2.out.up HUB.out)).mono ?_
        rintro e wC ⟨rfl, hUC⟩
        rw [HR3b.out]
        go_wp2
        go_ret
        exact ⟨rfl, HUB.out.trans hUC⟩
  · obtain ⟨⟨c0, c1, c2⟩, c3, c4, c5⟩ := HA1.out
    go_wp2_with fail
    refine (HAd.out _ HU1.out).mono ?_
    rintro e w2 ⟨rfl, hU2⟩
    clear c0 c1 c2 c3 c4 c5
    have HA2 := hid (HA1.out.up hU2)
    have HU2 := hid (HU1.out.trans hU2)
    clear hU2
    obtain ⟨⟨c0, c1, c2⟩, c3, c4, c5⟩ := HA2.out
    go_wp2_with fail
    refine (HSc.out _ HU2.out).mono ?_
    rintro e w3 ⟨rfl, hU3⟩
    clear c0 c1 c2 c3 c4 c5
    have HA3 := hid (HA2.out.up hU3)
    have HU3 := hid (HU2.out.trans hU3)
    clear hU3
    obtain ⟨⟨c0, c1, c2⟩, c3, c4, c5⟩ := HA3.out
    go_wp2_with fail
    refine (HSu.out _ HU3.out).mono ?_
    rintro e w4 ⟨rfl, hU4⟩
    clear c0 c1 c2 c3 c4 c5
    have HA4 := hid (HA3.out.up hU4)
    have HU4 := hid (HU3.out.trans hU4)
    clear hU4
    obtain ⟨⟨c0, c1, c2⟩, c3, c4, c5⟩ := HA4.out
    go_wp2_with fail
    refine (rbValid_any P Q G A B C _ hP hQ).mono ?_
    rintro e w5 ⟨rfl, hU5⟩
    clear c0 c1 c2 c3 c4 c5
    have HA5 := hid (HA4.out.up hU5)
    have HU5 := hid (HU4.out.trans hU5)
    clear hU5
    obtain ⟨⟨c0, c1, c2⟩, c3, c4, c5⟩ := HA5.out
    by_cases hb : bvB P Q G A B C = true
    case neg =>
      have hb' : bvB P Q G A B C = false := by simpa using hb
      have e1 : E1 = 1 := by rw [← HE1.out, givE, if_neg hb]
      have e2 : E2 = 1 := by rw [← HE2.out, givE, if_neg hb]
      have e3 : E3 = 1 := by rw [← HE3.out, sumE, if_neg (fun h => hb h.1)]
      subst e1 e2 e3
      have r1 : R1 = 0 := HR1.out.symm
      have r2 : R2 = 0 := HR2.out.symm
      have r3 : R3 = 0 := HR3.out.symm
      subst r1 r2 r3
      rw [hb']
      clear hb hb'
      go_wp2
      go_ret
      exact ⟨rfl, HU5.out⟩
    have Hb := hid hb
    obtain ⟨hg, _⟩ := bv_iff.1 hb
    have g := gv_iff.1 hg
    have g1 := g.P61
    have g2 := g.P4
    have g3 := g.Q3
    have g4 := g.QP
    have Hg := hid hg
    rw [hb]
    clear hb g hg
    have hs5 := cell_lt c0
    go_wp2_with fail
    have HBb := hid (box_reads (w := w5) (P := P) (Q := Q) (G := G) rfl ((Up.refl _).alloc (.cells #[.int .i64 c, .int .i64 d] 3)))
    refine (rMembers_any P Q G _ [c, d] _ g1 (by omega) hQ (ints_two (by go_simp) (by go_simp))).mono ?_
    rintro e w6 ⟨rfl, hU6⟩
    have HA6 := hid (HA5.out.up ((((Up.refl w5).alloc _).alloc _).trans hU6))
    have HB6 := hid (HBb.out.up hU6)
    have HU6 := hid (HU5.out.trans ((((Up.refl w5).alloc _).alloc _).trans hU6))
    clear hU6 c0 c1 c2 c3 c4 c5 hs5
    obtain ⟨⟨c0, c1, c2⟩, c3, c4, c5⟩ := HA6.out
    obtain ⟨e0, e1, e2⟩ := HB6.out
    by_cases hm : [c, d].all (elB P Q) = true
    · simp only [List.all_cons, List.all_nil, Bool.and_true, Bool.and_eq_true] at hm
      obtain ⟨hc, hd⟩ := hm
      obtain ⟨x0, x1, _⟩ := el_iff.1 hc
      obtain ⟨y0, y1, _⟩ := el_iff.1 hd
      have z1 : E1 = 0 := by rw [← HE1.out]; exact giv_zero.2 ⟨Hb.out, by simp, by simp [hc, hd]⟩
      subst z1
      have HR1b : Hid (c * d % P = R1) := hid HR1.out
      have Hc := hid hc
      rw [show [c, d].all (elB P Q) = true by simp [hc, hd]]
      clear hc hd
      go_wp2_with fail
      refine (rgMul_ok P Q G c d _ (by omega) x1 (by omega) y1 g1).mono ?_
      rintro e w7 ⟨rfl, hU7⟩
      clear c0 c1 c2 c3 c4 c5 e0 e1 e2
      have HA7 := hid (HA6.out.up hU7)
      have HB7 := hid (HB6.out.up hU7)
      have HU7 := hid (HU6.out.trans hU7)
      clear hU7
      obtain ⟨⟨c0, c1, c2⟩, c3, c4, c5⟩ := HA7.out
      obtain ⟨e0, e1, e2⟩ := HB7.out
      rw [HR1b.out]
      go_wp2_with fail
      refine (rMember_any P Q G c _ g1 (by omega) hQ).mono ?_
      rintro e w8 ⟨rfl, hU8⟩
      clear c0 c1 c2 c3 c4 c5 e0 e1 e2
      have HA8 := hid (HA7.out.up hU8)
      have HB8 := hid (HB7.out.up hU8)
      have HU8 := hid (HU7.out.trans hU8)
      clear hU8
      obtain ⟨⟨c0, c1, c2⟩, c3, c4, c5⟩ := HA8.out
      obtain ⟨e0, e1, e2⟩ := HB8.out
      rw [Hc.out]
      go_wp2_with fail
      refine (rScalar_any P Q G k _).mono ?_
      rintro e w9 ⟨rfl, hU9⟩
      clear c0 c1 c2 c3 c4 c5 e0 e1 e2
      have HA9 := hid (HA8.out.up hU9)
      have HB9 := hid (HB8.out.up hU9)
      have HU9 := hid (HU8.out.trans hU9)
      clear hU9
      obtain ⟨⟨c0, c1, c2⟩, c3, c4, c5⟩ := HA9.out
      obtain ⟨e0, e1, e2⟩ := HB9.out
      by_cases hk : exB Q k = true
      · obtain ⟨k0, k1⟩ := exB_iff.1 hk
        have z2 : E2 = 0 := by rw [← HE2.out]; exact giv_zero.2 ⟨Hb.out, by simp [hk], by simp [Hc.out]⟩
        subst z2
        have HR2b : Hid (gpw P Q c k = R2) := hid HR2.out
        rw [hk]
        clear hk
        go_wp2_with fail
        refine (rgPower_ok P Q G c k _ (by omega) x1 (by omega) (by omega) g1 (by omega) (by omega)).mono ?_
        rintro e w10 ⟨rfl, hU10⟩
        clear c0 c1 c2 c3 c4 c5 e0 e1 e2
        have HA10 := hid (HA9.out.up hU10)
        have HB10 := hid (HB9.out.up hU10)
        have HU10 := hid (HU9.out.trans hU10)
        clear hU10
        obtain ⟨⟨c0, c1, c2⟩, c3, c4, c5⟩ := HA10.out
        obtain ⟨e0, e1, e2⟩ := HB10.out
        rw [HR2b.out]
        have z3 : E3 = 1 := by rw [← HE3.out, sumE, if_neg (fun h => by have := h.2.2; rw [HN.out] at this; omega)]
        subst z3
        have r3 : R3 = 0 := HR3.out.symm
        subst r3
        have q1 : decide (1000 < n) = true := by simp; omega
        by_cases hnm : n = m
        · subst hnm
          go_wp2
          go_ret
          exact ⟨rfl, HU10.out⟩
        · have q2 : (n != m) = true := by simpa using hnm
          have q3 : ((n : Int) != (m : Int)) = true := by simp; omega
          clear hnm
          go_wp2
          go_ret
          exact ⟨rfl, HU10.out⟩
      · have hk' : exB Q k = false := by simpa using hk
        have z2 : E2 = 2 := by rw [← HE2.out, givE, if_pos Hb.out, if_neg (by simp [hk'])]
        subst z2
        have r2 : R2 = 0 := HR2.out.symm
        subst r2
        rw [hk']
        clear hk hk'
        have z3 : E3 = 1 := by rw [← HE3.out, sumE, if_neg (fun h => by have := h.2.2; rw [HN.out] at this; omega)]
        subst z3
        have r3 : R3 = 0 := HR3.out.symm
        subst r3
        have q1 : decide (1000 < n) = true := by simp; omega
        by_cases hnm : n = m
        · subst hnm
          go_wp2
          go_ret
          exact ⟨rfl, HU9.out⟩
        · have q2 : (n != m) = true := by simpa using hnm
          have q3 : ((n : Int) != (m : Int)) = true := by simp; omega
          clear hnm
          go_wp2
          go_ret
          exact ⟨rfl, HU9.out⟩
    · have hm' : [c, d].all (elB P Q) = false := by simpa using hm
      have z1 : E1 = 2 := by rw [← HE1.out, givE, if_pos Hb.out, if_neg (by rw [hm']; simp)]
      subst z1
      have r1 : R1 = 0 := HR1.out.symm
      subst r1
      rw [hm']
      clear hm hm'
      go_wp2_with fail
      refine (rMember_any P Q G c _ g1 (by omega) hQ).mono ?_
      rintro e w8 ⟨rfl, hU8⟩
      clear c0 c1 c2 c3 c4 c5 e0 e1 e2
      have HA8 := hid (HA6.out.up hU8)
      have HB8 := hid (HB6.out.up hU8)
      have HU8 := hid (HU6.out.trans hU8)
      clear hU8
      obtain ⟨⟨c0, c1, c2⟩, c3, c4, c5⟩ := HA8.out
      obtain ⟨e0, e1, e2⟩ := HB8.out
      by_cases hc : elB P Q c = true
      · obtain ⟨x0, x1, _⟩ := el_iff.1 hc
        have Hc := hid hc
        rw [hc]
        clear hc
        go_wp2_with fail
        refine (rScalar_any P Q G k _).mono ?_
        rintro e w9 ⟨rfl, hU9⟩
        clear c0 c1 c2 c3 c4 c5 e0 e1 e2
        have HA9 := hid (HA8.out.up hU9)
        have HB9 := hid (HB8.out.up hU9)
        have HU9 := hid (HU8.out.trans hU9)
        clear hU9
        obtain ⟨⟨c0, c1, c2⟩, c3, c4, c5⟩ := HA9.out
        obtain ⟨e0, e1, e2⟩ := HB9.out
        by_cases hk : exB Q k = true
        · obtain ⟨k0, k1⟩ := exB_iff.1 hk
          have z2 : E2 = 0 := by rw [← HE2.out]; exact giv_zero.2 ⟨Hb.out, by simp [hk], by simp [Hc.out]⟩
          subst z2
          have HR2b : Hid (gpw P Q c k = R2) := hid HR2.out
          rw [hk]
          clear hk
          go_wp2_with fail
          refine (rgPower_ok P Q G c k _ (by omega) x1 (by omega) (by omega) g1 (by omega) (by omega)).mono ?_
          rintro e w10 ⟨rfl, hU10⟩
          clear c0 c1 c2 c3 c4 c5 e0 e1 e2
          have HA10 := hid (HA9.out.up hU10)
          have HB10 := hid (HB9.out.up hU10)
          have HU10 := hid (HU9.out.trans hU10)
          clear hU10
          obtain ⟨⟨c0, c1, c2⟩, c3, c4, c5⟩ := HA10.out
          obtain ⟨e0, e1, e2⟩ := HB10.out
          rw [HR2b.out]
          have z3 : E3 = 1 := by rw [← HE3.out, sumE, if_neg (fun h => by have := h.2.2; rw [HN.out] at this; omega)]
          subst z3
          have r3 : R3 = 0 := HR3.out.symm
          subst r3
          have q1 : decide (1000 < n) = true := by simp; omega
          by_cases hnm : n = m
          · subst hnm
            go_wp2
            go_ret
            exact ⟨rfl, HU10.out⟩
          · have q2 : (n != m) = true := by simpa using hnm
            have q3 : ((n : Int) != (m : Int)) = true := by simp; omega
            clear hnm
            go_wp2
            go_ret
            exact ⟨rfl, HU10.out⟩
        · have hk' : exB Q k = false := by simpa using hk
          have z2 : E2 = 2 := by rw [← HE2.out, givE, if_pos Hb.out, if_neg (by simp [hk'])]
          subst z2
          have r2 : R2 = 0 := HR2.out.symm
          subst r2
          rw [hk']
          clear hk hk'
          have z3 : E3 = 1 := by rw [← HE3.out, sumE, if_neg (fun h => by have := h.2.2; rw [HN.out] at this; omega)]
          subst z3
          have r3 : R3 = 0 := HR3.out.symm
          subst r3
          have q1 : decide (1000 < n) = true := by simp; omega
          by_cases hnm : n = m
          · subst hnm
            go_wp2
            go_ret
            exact ⟨rfl, HU9.out⟩
          · have q2 : (n != m) = true := by simpa using hnm
            have q3 : ((n : Int) != (m : Int)) = true := by simp; omega
            clear hnm
            go_wp2
            go_ret
            exact ⟨rfl, HU9.out⟩
      · have hc' : elB P Q c = false := by simpa using hc
        have z2 : E2 = 2 := by rw [← HE2.out, givE, if_pos Hb.out, if_neg (by simp [hc'])]
        subst z2
        have r2 : R2 = 0 := HR2.out.symm
        subst r2
        rw [hc']
        clear hc hc'
        have z3 : E3 = 1 := by rw [← HE3.out, sumE, if_neg (fun h => by have := h.2.2; rw [HN.out] at this; omega)]
        subst z3
        have r3 : R3 = 0 := HR3.out.symm
        subst r3
        have q1 : decide (1000 < n) = true := by simp; omega
        by_cases hnm : n = m
        · subst hnm
          go_wp2
          go_ret
          exact ⟨rfl, HU8.out⟩
        · have q2 : (n != m) = true := by simpa using hnm
          have q3 : ((n : Int) != (m : Int)) = true := by simp; omega
          clear hnm
          go_wp2
          go_ret
          exact ⟨rfl, HU8.out⟩
end Go.Proofs.YtldodbffdegmiaaDoor
