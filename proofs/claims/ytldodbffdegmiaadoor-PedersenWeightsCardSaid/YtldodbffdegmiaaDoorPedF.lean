/- Weighted sums of commitments. -/
import Derived.Test.YtldodbffdegmiaaDoorPedE
import Derived.Test.YtldodbffdegmiaaDoorCut
import Derived.WalkLawsBesides
namespace Go.Proofs.YtldodbffdegmiaaDoor
open Go.RowKit Go.Sp
set_option maxHeartbeats 2000000
set_option maxRecDepth 20000

/-- The error of a weighted sum. -/
def sumE (P Q G A B C : Int) (ls ws : List Int) : Int :=
  if bvB P Q G A B C = true ∧ ls.length = ws.length ∧ ls.length ≤ 1000 then (if ws.all (exB Q) = true ∧ ls.all (elB P Q) = true then 0 else 2) else 1
def sumV (P Q G A B C : Int) (ls ws : List Int) : Int := if sumE P Q G A B C ls ws = 0 then pfold P Q 1 ls ws else 0

theorem BasAt.from {w : World} {b : Nat} {P Q G A B C : Int} (h : BasAt w b P Q G A B C) :
    (∀ p : UpFrom w, p.w'.cell? ⟨b, 0, none⟩ = some (.int .i64 P)) ∧ (∀ p : UpFrom w, p.w'.cell? ⟨b, 1, none⟩ = some (.int .i64 Q)) ∧ (∀ p : UpFrom w, p.w'.cell? ⟨b, 2, none⟩ = some (.int .i64 G)) ∧
    (∀ p : UpFrom w, p.w'.cell? ⟨b, 3, none⟩ = some (.int .i64 A)) ∧ (∀ p : UpFrom w, p.w'.cell? ⟨b, 4, none⟩ = some (.int .i64 B)) ∧ ∀ p : UpFrom w, p.w'.cell? ⟨b, 5, none⟩ = some (.int .i64 C) :=
  ⟨fun p => cellF h.1.1 p, fun p => cellF h.1.2.1 p, fun p => cellF h.1.2.2 p, fun p => cellF h.2.1 p, fun p => cellF h.2.2.1 p, fun p => cellF h.2.2.2 p⟩

theorem Sum_any (P Q G A B C : Int) (v1 v2 : Value) (ls ws : List Int) (w : World) (hP : -9223372036854775808 ≤ P) (hQ : Q ≤ 9223372036854775807) (hT : Tab w) (h1 : IntsAt w v1 ls) (h2 : IntsAt w v2 ws) (k1 : Room v1) (k2 : Room v2) :
    Calls Tryd.prog 71 #[bas P Q G A B C, v1, v2] w fun e w' => e = .returned (.tuple #[.int .i64 (sumV P Q G A B C ls ws), .int .i64 (sumE P Q G A B C ls ws)]) ∧ Up w w' := by
  have HT := hid hT
  have HI1 := hid h1
  have HI2 := hid h2
  obtain ⟨l1, a1, cp1, rfl, hc1⟩ := h1
  obtain ⟨l2, a2, cp2, rfl, hc2⟩ := h2
  obtain ⟨_, _, _, e, r1, r1', r1n⟩ := k1
  injection e with e1 e2 e3
  subst e1 e2 e3
  obtain ⟨_, _, _, e, r2, r2', r2n⟩ := k2
  injection e with e1 e2 e3
  subst e1 e2 e3
  have HE : Hid (sumE P Q G A B C ls ws = if bvB P Q G A B C = true ∧ ls.length = ws.length ∧ ls.length ≤ 1000 then (if ws.all (exB Q) = true ∧ ls.all (elB P Q) = true then 0 else 2) else 1) := hid rfl
  have HV : Hid (sumV P Q G A B C ls ws = if sumE P Q G A B C ls ws = 0 then pfold P Q 1 ls ws else 0) := hid rfl
  generalize sumE P Q G A B C ls ws = E at *
  generalize sumV P Q G A B C ls ws = V at *
  obtain ⟨n, hn⟩ : ∃ n, ls.length = n := ⟨_, rfl⟩
  obtain ⟨m, hm⟩ : ∃ m, ws.length = m := ⟨_, rfl⟩
  have HN := hid hn
  have HM := hid hm
  rw [hn] at HE HI1 l1 r1
  rw [hm] at HE HI2 l2 r2
  rw [hn, hm]
  clear hT hn hm hc1 hc2
  go_enter Tryd.func71, Tryd.ntmps71
  go_wp2_with fail
  refine (bValid_any P Q G A B C _ hP hQ (HT.out.up ((Up.refl w).alloc _))).mono ?_
  rintro e w1 ⟨rfl, hU1⟩
  have HA1 := hid (bas_reads (o := .cells #[.int .i64 P, .int .i64 Q, .int .i64 G, .int .i64 A, .int .i64 B, .int .i64 C] 73) rfl hU1)
  have HU1 := hid (((Up.refl w).alloc _).trans hU1)
  clear hU1
  obtain ⟨⟨c0, c1, c2⟩, c3, c4, c5⟩ := HA1.out
  by_cases hb : bvB P Q G A B C = true
  case neg =>
    have hb' : bvB P Q G A B C = false := by simpa using hb
    have hE : E = 1 := by rw [HE.out, if_neg (fun h => hb h.1)]
    have hV : V = 0 := by rw [HV.out, hE]; rfl
    subst hE hV
    rw [hb']
    clear hb hb'
    go_wp2
    go_ret2
    exact ⟨rfl, HU1.out⟩
  have Hb := hid hb
  by_cases he : n = m
  case neg =>
    have hE : E = 1 := by rw [HE.out, if_neg (fun h => he h.2.1)]
    have hV : V = 0 := by rw [HV.out, hE]; rfl
    subst hE hV
    have d1 : (n != m) = true := by simpa using he
    have d2 : ((n : Int) != (m : Int)) = true := by simp; omega
    rw [hb]
    clear hb he
    go_wp2
    go_ret2
    exact ⟨rfl, HU1.out⟩
  obtain rfl := he
  by_cases hbig : 1000 < n
  case pos =>
    have hE : E = 1 := by rw [HE.out, if_neg (fun h => by have := h.2.2; omega)]
    have hV : V = 0 := by rw [HV.out, hE]; rfl
    subst hE hV
    have d1 : decide (1000 < n) = true := by simpa using hbig
    rw [hb]
    clear hb
    go_wp2
    go_ret2
    exact ⟨rfl, HU1.out⟩
  have d1 : decide (1000 < n) = false := by simpa using hbig
  have HE2 : Hid (E = if ws.all (exB Q) = true ∧ ls.all (elB P Q) = true then 0 else 2) := hid (by rw [HE.out, if_pos ⟨hb, rfl, by omega⟩])
  have HGv : Hid (givE P Q G A B C ws ls = E) := hid (by rw [givE, if_pos hb, HE2.out])
  have hg := (bv_iff.1 hb).1
  have g := gv_iff.1 hg
  have g1 := g.P61
  have g2 := g.P4
  have g3 := g.Q3
  have g4 := g.QP
  have Hg := hid hg
  rw [hb]
  clear hb HE g hg
  go_wp2_with fail
  refine (given_any P Q G A B C _ _ ws ls _ hP hQ (HT.out.up HU1.out) (HI2.out.up HU1.out) (HI1.out.up HU1.out)).mono ?_
  rintro e w2 ⟨rfl, hU2⟩
  rw [HGv.out]
  have HA2 := hid (HA1.out.up hU2)
  have HU2 := hid (HU1.out.trans hU2)
  clear hU2 c0 c1 c2 c3 c4 c5 HA1
  by_cases h0 : E = 0
  case neg =>
    have hV : V = 0 := by rw [HV.out, if_neg h0]
    have d2 : (E != 0) = true := by simpa using h0
    subst hV
    clear h0
    go_wp2
    go_ret2
    exact ⟨rfl, HU2.out⟩
  obtain ⟨_, hw, hl⟩ := giv_zero.1 (HGv.out.trans h0)
  have HW := hid hw
  have HLs := hid hl
  have HVV : Hid (V = pfold P Q 1 ls ws) := hid (by rw [HV.out, if_pos h0])
  subst h0
  clear hw hl HV HE2
  obtain ⟨o, ho⟩ : ∃ o, w.heap.size = o := ⟨_, rfl⟩
  rw [ho] at HA2
  rw [ho]
  clear ho
  go_wp2_with fail
  go_loopw [9, 10] (fun vo vi wr => ∃ (f : Nat) (a : Int), f ≤ n + 100 ∧ vi = .int .i64 f ∧ vo = .int .i64 a ∧ Hid (V = pfold P Q a (ls.drop f) (ws.drop f)) ∧ Hid (elB P Q a = true) ∧ Hid (Up w wr) ∧ Hid (BasAt wr o P Q G A B C)) (fun _ vi _ => n + 100 - (intOf vi).toNat)
  case atStart => exact ⟨0, 1, by omega, rfl, rfl, HVV, hid (el_one (by omega)), HU2, HA2⟩
  case round =>
    obtain ⟨f, a, hf, rfl, rfl, HD, HA, HU, HAr⟩ := hrel
    obtain ⟨⟨c0, c1, c2⟩, c3, c4, c5⟩ := HAr.out
    by_cases hl : f < n
    · obtain ⟨b1, o1, rfl, _⟩ := ints_cell (i := f) (by exact (fun hne => by
          obtain ⟨_, _, _, hv, hc⟩ := HI1.out
          injection hv with q1 q2 q3
          subst q1
          exact hc hne)) HU.out (by rw [HN.out]; exact hl)
      obtain ⟨b2, o2, rfl, _⟩ := ints_cell (i := f) (by exact (fun hne => by
          obtain ⟨_, _, _, hv, hc⟩ := HI2.out
          injection hv with q1 q2 q3
          subst q1
          exact hc hne)) HU.out (by rw [HM.out]; exact hl)
      obtain ⟨h, hh⟩ : ∃ h : Nat, min (f + 100) n = h := ⟨_, rfl⟩
      have hfh : f < h := by omega
      have hhn : h ≤ n := by omega
      have hmin : min ((f : Int) + 100) (n : Int) = (h : Int) := by omega
      have X1 := hid (ints_sub (c := cp1 - f) HI1.out (Nat.le_of_lt hfh) hhn)
      have X2 := hid (ints_sub (c := cp2 - f) HI2.out (Nat.le_of_lt hfh) hhn)
      have hX : ∀ x ∈ (ls.drop f).take (h - f), elB P Q x = true := fun x hx => HLs.out x (List.mem_of_mem_drop (List.mem_of_mem_take hx))
      have hY : ∀ x ∈ (ws.drop f).take (h - f), exB Q x = true := fun x hx => HW.out x (List.mem_of_mem_drop (List.mem_of_mem_take hx))
      have hlX : ((ls.drop f).take (h - f)).length = h - f := by simp [HN.out]; omega
      have hlY : ((ws.drop f).take (h - f)).length = h - f := by simp [HM.out]; omega
      have hA : ls.drop f = (ls.drop f).take (h - f) ++ ls.drop (f + 100) := by
        have e1 := drop_split ls f (h - f)
        rw [show f + (h - f) = h by omega] at e1
        by_cases e : h = f + 100
        · rw [e] at e1 ⊢; exact e1
        · rw [List.drop_eq_nil_of_le (i := h) (by rw [HN.out]; omega)] at e1
          rw [List.drop_eq_nil_of_le (i := f + 100) (by rw [HN.out]; omega)]
          exact e1
      have hB : ws.drop f = (ws.drop f).take (h - f) ++ ws.drop (f + 100) := by
        have e1 := drop_split ws f (h - f)
        rw [show f + (h - f) = h by omega] at e1
        by_cases e : h = f + 100
        · rw [e] at e1 ⊢; exact e1
        · rw [List.drop_eq_nil_of_le (i := h) (by rw [HM.out]; omega)] at e1
          rw [List.drop_eq_nil_of_le (i := f + 100) (by rw [HM.out]; omega)]
          exact e1
      generalize (ls.drop f).take (h - f) = X at *
      generalize (ws.drop f).take (h - f) = Y at *
      have hp0 : prE P Q G X Y = 0 := prE_zero.2 ⟨Hg.out, by rw [hlX, hlY], by rw [hlX]; omega, hX, hY⟩
      have HPr : Hid (∀ w' u1 u2, Tab w' → IntsAt w' u1 X → IntsAt w' u2 Y → Calls Tryd.prog 44 #[grp P Q G, u1, u2] w' fun e w'' => e = .returned (.tuple #[.int .i64 (pfold P Q 1 X Y), .int .i64 0]) ∧ Up w' w'') := hid (fun w' u1 u2 hT q1 q2 => by
        have := Product_any P Q G _ _ _ _ w' hP hQ hT q1 q2
        rw [prV, hp0, if_pos rfl] at this
        exact this)
      have hpe := pfold_el (P := P) (Q := Q) (by omega) (by omega) X Y 1 (el_one (by omega)) hX
      have hae := pfold_el (P := P) (Q := Q) (by omega) (by omega) X Y a HA.out hX
      have hD2 : V = pfold P Q (a * pfold P Q 1 X Y % P) (ls.drop (f + 100)) (ws.drop (f + 100)) := by
        rw [HD.out, hA, hB, pfold_append _ _ _ _ _ (by rw [hlX, hlY]), ← pfold_out, Int.mul_one, el_lt HA.out, el_lt hae]
      have hpae := el_mul (by omega) (by omega) HA.out hpe
      obtain ⟨p, hp⟩ : ∃ p, pfold P Q 1 X Y = p := ⟨_, rfl⟩
      rw [hp] at HPr hpe hD2 hpae
      have HD2 := hid hD2
      have HPe := hid hpe
      have HPA := hid hpae
      have HX := hid (X1.out.up HU.out)
      have HY := hid (X2.out.up HU.out)
      have hc1 : h ≤ cp1 := by omega
      have hc2 : h ≤ cp2 := by omega
      have hn1 : ¬ cp1 = f := by omega
      have hn2 : ¬ cp2 = f := by omega
      have hfh2 : f ≤ h := by omega
      have hfZ : (f : Int) < (n : Int) := by omega
      clear hX hY hlX hlY hp0 hA hB hpe hae hD2 hpae hp hh X1 X2 HI1 HI2 r1n r2n HD
      go_wp2_with fail
      obtain ⟨f0, f1, f2, f3, f4, f5⟩ := HAr.out.from
      refine wp_region_up (by kernel_rfl) (by kernel_rfl) ?_
      repeat (go_big_quiet_step ((first
        | (go_at_call 44; exact Calls.up_of (HPr.out _ _ _ (HT.out.up (HU.out.trans (UpFrom.up _))) (HX.out.up (UpFrom.up _)) (HY.out.up (UpFrom.up _)))))))
      refine wpQuiet_nil ?_
      rintro _ ⟨u, rfl⟩
      have HU3 := hid (HU.out.trans u.up)
      have HA3 := hid (HAr.out.up u.up)
      clear f0 f1 f2 f3 f4 f5 c0 c1 c2 c3 c4 c5
      obtain ⟨⟨c0, c1, c2⟩, c3, c4, c5⟩ := HA3.out
      go_wp2_with fail
      refine (gMul_ok P Q G a p _ hQ (HT.out.up HU3.out) Hg.out HA.out HPe.out).mono ?_
      rintro e w4 ⟨rfl, hU4⟩
      have HU4 := hid (HU3.out.trans hU4)
      have HA4 := hid (HA3.out.up hU4)
      clear hU4 c0 c1 c2 c3 c4 c5
      go_wp2_with fail
      go_roundw
      case rel => exact ⟨f + 100, _, by omega, by go_num, rfl, HD2, HPA, HU4, HA4⟩
      case measure => simp [intOf]; omega
    · have HE2 : Hid (V = a) := hid (by rw [HD.out, List.drop_eq_nil_of_le (by rw [HN.out]; omega)]; rfl)
      have hl2 : ¬ ((f : Int) < n) := by omega
      go_wp2
      go_ret2
      exact ⟨by rw [HE2.out]; rfl, HU.out⟩
end Go.Proofs.YtldodbffdegmiaaDoor
