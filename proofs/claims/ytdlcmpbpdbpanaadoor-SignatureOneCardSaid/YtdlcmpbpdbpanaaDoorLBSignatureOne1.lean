/- For an element, a challenge and a response exactly one element of a small group fits, and for a commitment and a challenge exactly one response: specielaw22.SignatureOne returns true. For every input; the tables of packages math/bits and prime as the program's text lays them. SignatureOne: the walk. -/
import Derived.Test.YtdlcmpbpdbpanaaDoorMB28
import Derived.Test.YtdlcmpbpdbpanaaDoorMB29
import Derived.Lay
namespace Go.Proofs.YtdlcmpbpdbpanaaDoor
open Go.RowKit Go.Sp
set_option maxHeartbeats 4000000
set_option maxRecDepth 20000

theorem q22Scalar_any (P Q G x : Int) (w : World) :
    Calls Tryd.prog 38 #[grp P Q G, .int .i64 x] w fun e w' => e = .returned (.bool (exB Q x)) ∧ Up w w' := by
  have HB : Hid (exB Q x = (decide (0 ≤ x) && decide (x < Q))) := hid rfl
  generalize exB Q x = X at *
  by_cases c1 : x ≥ 0
  case neg =>
    have d1 : decide (x ≥ 0) = false := by simpa using c1
    have hX : X = false := by rw [HB.out, show decide (0 ≤ x) = false from d1]; rfl
    subst hX
    clear c1
    go_enter Tryd.func38, Tryd.ntmps38
    go_wp2
    go_ret
    exact ⟨rfl, (Up.refl w).alloc _⟩
  have d1 : decide (x ≥ 0) = true := by simpa using c1
  have HB2 : Hid (X = decide (x < Q)) := hid (by rw [HB.out, show decide (0 ≤ x) = true from d1]; rfl)
  clear HB
  go_enter Tryd.func38, Tryd.ntmps38
  go_wp2
  go_ret
  exact ⟨by rw [HB2.out]; rfl, (Up.refl w).alloc _⟩

theorem SignatureOne_walk (P Q G y c s : Int) (w : World) (hP : -9223372036854775808 ≤ P) (hQ : Q ≤ 9223372036854775807) (hT : Tab w) :
    Calls Tryd.prog 8 #[grp P Q G, .int .i64 y, .int .i64 c, .int .i64 s] w fun e w' => e = .returned (.bool true) ∧ Up w w' := by
  have HT := hid hT
  obtain ⟨o, ho⟩ : ∃ o, w.heap.size = o := ⟨_, rfl⟩
  have HO := hid ho
  clear hT ho
  go_enter Tryd.func8, Tryd.ntmps8
  go_wp2_with fail
  refine (awake22 _ (HT.out.up ((Up.refl w).alloc _))).mono ?_
  rintro e w1 ⟨rfl, hU1⟩
  have HA1 := hid ((nums_three (w := w) (t := 52) HO.out).up hU1)
  have HU1 := hid (((Up.refl w).alloc _).trans hU1)
  clear hU1
  rw [HO.out]
  obtain ⟨c0, c1, c2⟩ := HA1.out
  go_wp2_with fail
  refine (rValid_any P Q G _ hP hQ).mono ?_
  rintro e w2 ⟨rfl, hU2⟩
  have HA2 := hid (HA1.out.up hU2)
  have HU2 := hid (HU1.out.trans hU2)
  clear hU2 HA1 HU1 c0 c1 c2
  obtain ⟨c0, c1, c2⟩ := HA2.out
  by_cases h : gvB P Q G = true
  case neg =>
    have h' : gvB P Q G = false := by simpa using h
    rw [h']
    clear h h'
    go_wp2
    go_ret
    exact ⟨rfl, HU2.out⟩
  have Hg := hid h
  have g := gv_iff.1 h
  have g1 := g.P61
  have g2 := g.P4
  have g3 := g.Q3
  have g4 := g.QP
  rw [h]
  clear h g
  by_cases hq : Q > 113
  case pos =>
    have d : decide (Q > 113) = true := by simpa using hq
    go_wp2
    go_ret
    exact ⟨rfl, HU2.out⟩
  have dq : decide (Q > 113) = false := by simpa using hq
  by_cases hp : P > 65536
  case pos =>
    have d : decide (P > 65536) = true := by simpa using hp
    go_wp2
    go_ret
    exact ⟨rfl, HU2.out⟩
  have dp : decide (P > 65536) = false := by simpa using hp
  go_wp2_with fail
  refine (rMember_any P Q G y _ g1 (by omega) hQ).mono ?_
  rintro e w3 ⟨rfl, hU3⟩
  have HA3 := hid (HA2.out.up hU3)
  have HU3 := hid (HU2.out.trans hU3)
  clear hU3 HA2 HU2 c0 c1 c2
  obtain ⟨c0, c1, c2⟩ := HA3.out
  by_cases h : elB P Q y = true
  case neg =>
    have h' : elB P Q y = false := by simpa using h
    rw [h']
    clear h h'
    go_wp2
    go_ret
    exact ⟨rfl, HU3.out⟩
  have Hy := hid h
  rw [h]
  clear h
  go_wp2_with fail
  refine (q22Scalar_any P Q G c _).mono ?_
  rintro e w4 ⟨rfl, hU4⟩
  have HA4 := hid (HA3.out.up hU4)
  have HU4 := hid (HU3.out.trans hU4)
  clear hU4 HA3 HU3 c0 c1 c2
  obtain ⟨c0, c1, c2⟩ := HA4.out
  by_cases h : exB Q c = true
  case neg =>
    have h' : exB Q c = false := by simpa using h
    rw [h']
    clear h h'
    go_wp2
    go_ret
    exact ⟨rfl, HU4.out⟩
  have Hc := hid h
  rw [h]
  clear h
  go_wp2_with fail
  refine (q22Scalar_any P Q G s _).mono ?_
  rintro e w5 ⟨rfl, hU5⟩
  have HA5 := hid (HA4.out.up hU5)
  have HU5 := hid (HU4.out.trans hU5)
  clear hU5 HA4 HU4 c0 c1 c2
  obtain ⟨c0, c1, c2⟩ := HA5.out
  by_cases h : exB Q s = true
  case neg =>
    have h' : exB Q s = false := by simpa using h
    rw [h']
    clear h h'
    go_wp2
    go_ret
    exact ⟨rfl, HU5.out⟩
  have Hs := hid h
  rw [h]
  clear h
  obtain ⟨c0', c1'⟩ := exB_iff.1 Hc.out
  obtain ⟨s0', s1'⟩ := exB_iff.1 Hs.out
  have HX := hid (fun x hx => one_fit (c := c) (s := s) (x := x) Hg.out Hy.out s0' s1' hx)
  have HR := hid (fun t t0 t1 => one_resp (c := c) (s := s) (t := t) Hg.out (by omega) Hy.out s0' s1' t0 t1)
  have HFt := hid (fun (t : Int) (t0 : 0 ≤ t) (t1 : t < Q) w' (hU : Up w w') => (by
    have h := sigForge_any P Q G y c t w' hP hQ (HT.out.up hU)
    rw [show frgE P Q G y c t = 0 by simp [frgE, errE, Hg.out, Hy.out, Hc.out, exB_iff.2 ⟨t0, t1⟩]] at h
    exact h : Calls Tryd.prog 34 #[grp P Q G, .int .i64 y, .int .i64 c, .int .i64 t] w' fun e w'' => e = .returned (.tuple #[.int .i64 (frgV P Q G y c t), .int .i64 0]) ∧ Up w' w''))
  have HF := hid (HFt.out s s0' s1')
  have HEl := hid (fun w' (hU : Up w w') => Elements_ok P Q G w' (HT.out.up hU) Hg.out (by omega))
  have HLe := hid (fun w' (hU : Up w w') => gPower_ok P Q G G s w' hQ (HT.out.up hU) Hg.out (sgen_el Hg.out) (by omega) (by omega))
  have HZe := hid (fun w' (hU : Up w w') => gPower_ok P Q G y c w' hQ (HT.out.up hU) Hg.out Hy.out (by omega) (by omega))
  have HMu := hid (fun (x : Int) (hx : elB P Q x = true) w' (hU : Up w w') => gMul_ok P Q G x (gpw P Q y c) w' hQ (HT.out.up hU) Hg.out hx (gpw_el (by omega) (by omega) Hy.out c))
  have hre := frgV_el (c := c) (s := s) Hg.out Hy.out
  have hrm : frgV P Q G y c s ∈ found P Q (P - 1).toNat := mem_found.2 ⟨(el_range hre).1, by have := (el_range hre).2; omega, hre⟩
  obtain ⟨k, hk, hku⟩ := lone (found_lt P Q (P - 1).toNat) hrm
  have HK := hid hku
  have HFe := hid (found_eq Hg.out (by omega) (gen_el Hg.out).1 (gen_el Hg.out).2)
  have HFm := hid (fun x (hx : x ∈ found P Q (P - 1).toNat) => (mem_found.1 hx).2.2)
  generalize found P Q (P - 1).toNat = xs at *
  obtain ⟨r, hr⟩ : ∃ r, frgV P Q G y c s = r := ⟨_, rfl⟩
  simp only [hr] at HX HR HF HK
  generalize gpw P Q G s = L at *
  generalize gpw P Q y c = Z at *
  obtain ⟨q, rfl⟩ : ∃ q : Nat, Q = q := ⟨Q.toNat, by omega⟩
  clear hre hrm hr hku
  go_wp2_with fail
  refine (HF.out _ (HU5.out)).mono ?_
  rintro e w6 ⟨rfl, hU6⟩
  have HA6 := hid (HA5.out.up hU6)
  have HU6 := hid (HU5.out.trans hU6)
  clear hU6 HA5 HU5 c0 c1 c2
  obtain ⟨c0, c1, c2⟩ := HA6.out
  go_wp2_with fail
  refine (HEl.out _ HU6.out).mono ?_
  rintro e w7 ⟨v, rfl, hO, hU7⟩
  have hi := hO.ints
  rw [HFe.out] at hi
  obtain ⟨l1, a1, cp1, rfl, hc1⟩ := hi
  have HC1 := hid hc1
  obtain ⟨m, hm⟩ : ∃ m, xs.length = m := ⟨_, rfl⟩
  rw [hm] at l1
  rw [hm] at hk
  rw [hm]
  have HM := hid hm
  have HA7 := hid (HA6.out.up hU7)
  have HU7 := hid (HU6.out.trans hU7)
  clear hU7 HA6 HU6 c0 c1 c2 hO hc1 hm
  obtain ⟨c0, c1, c2⟩ := HA7.out
  go_wp2_with fail
  refine (HLe.out _ (HU7.out)).mono ?_
  rintro e w8 ⟨rfl, hU8⟩
  have HA8 := hid (HA7.out.up hU8)
  have HU8 := hid (HU7.out.trans hU8)
  have HUa := hid hU8
  clear hU8 HA7 HU7 c0 c1 c2
  obtain ⟨c0, c1, c2⟩ := HA8.out
  go_wp2_with fail
  refine (HZe.out _ (HU8.out)).mono ?_
  rintro e w9 ⟨rfl, hU9⟩
  have HA9 := hid (HA8.out.up hU9)
  have HU9 := hid (HU8.out.trans hU9)
  have HUb := hid hU9
  clear hU9 HA8 HU8 c0 c1 c2
  obtain ⟨c0, c1, c2⟩ := HA9.out
  go_wp2_with fail


  have HUX9 := hid (HUa.out.trans HUb.out)
  clear HUa HUb
  go_loopw [17, 103] (fun vn vi wr => ∃ (i : Nat) (N : Int), i ≤ m ∧ vi = .int .i64 i ∧ vn = .int .i64 N ∧ Hid (N = pastN k i) ∧ Hid (Up w wr) ∧ Hid (Up w7 wr) ∧ Hid (GrpAt wr o P q G)) (fun _ vi _ => m - (intOf vi).toNat)
  case atStart => exact ⟨0, 0, by omega, rfl, rfl, hid (pastN_zero (by omega)).symm, HU9, HUX9, HA9⟩
  case round =>
    clear HU9 HUX9 HA9 c0 c1 c2
    obtain ⟨i, N, hi, rfl, rfl, HN, HU, HUX, HA⟩ := hrel
    obtain ⟨c0, c1, c2⟩ := HA.out
    by_cases hl : i < m
    · have hl1 : i < xs.length := by rw [HM.out]; exact hl
      obtain ⟨b1, o1, rfl, k1⟩ := ints_cell HC1.out HUX.out hl1
      have hxe := HFm.out _ (getD_mem hl1)
      have hxk := HK.out i hl1
      have hxf := HX.out _ hxe
      have HMx := hid (HMu.out _ hxe)
      generalize xs.getD i 0 = x at *
      go_wp2_with fail
      refine (HMx.out _ HU.out).mono ?_
      rintro e w10 ⟨rfl, hU10⟩
      have HA10 := hid (HA.out.up hU10)
      have HU10 := hid (HU.out.trans hU10)
      have HX10 := hid (HUX.out.trans hU10)
      clear hU10 HA HU HUX c0 c1 c2
      obtain ⟨c0, c1, c2⟩ := HA10.out
      obtain ⟨Y, hY⟩ : ∃ Y, x * Z % P = Y := ⟨_, rfl⟩
      rw [hY] at hxf ⊢
      clear hY hxe HMx
      by_cases hx : Y = L
      · have d : (Y == L) = true := by simpa using hx
        have hxr := hxf.1 hx
        have hik := hxk.1 hxr
        have d2 : (x != r) = false := by simpa using hxr
        have hN0 : N = 0 := by rw [HN.out, hik]; exact pastN_hit.1
        have HN2 : Hid ((1 : Int) = pastN k ((i + 1 : Nat) : Int)) := hid (by rw [show (((i + 1 : Nat)) : Int) = (i : Int) + 1 by omega, hik]; exact pastN_hit.2.symm)
        subst hN0
        clear hx hxr hik hxf hxk HN
        go_wp2_with fail
        go_roundw
        case rel => exact ⟨i + 1, 1, by omega, by go_num, by go_num, HN2, HU10, HX10, HA10⟩
        case measure => simp [intOf]; omega
      · have d : (Y == L) = false := by simpa using hx
        have hne : (i : Int) ≠ k := fun h => hx (hxf.2 (hxk.2 (by omega)))
        have HN2 : Hid (N = pastN k ((i + 1 : Nat) : Int)) := hid (by rw [show (((i + 1 : Nat)) : Int) = (i : Int) + 1 by omega, pastN_same hne]; exact HN.out)
        clear hx hxf hxk hne HN
        go_wp2_with fail
        go_roundw
        case rel => exact ⟨i + 1, N, by omega, by go_num, rfl, HN2, HU10, HX10, HA10⟩
        case measure => simp [intOf]; omega
    · obtain rfl : i = m := by omega
      have hN : N = 1 := by rw [HN.out]; exact pastN_end (by omega)
      subst hN
      clear HN
      go_wp2_with fail
      go_loopw [22, 127] (fun vn vt wr => ∃ (t : Nat) (N : Int), t ≤ q ∧ vt = .int .i64 t ∧ vn = .int .i64 N ∧ Hid (N = pastN s t) ∧ Hid (Up w wr) ∧ Hid (GrpAt wr o P q G)) (fun _ vt _ => q - (intOf vt).toNat)
      case atStart => exact ⟨0, 0, by omega, rfl, rfl, hid (pastN_zero (by omega)).symm, HU, HA⟩
      case round =>
        clear HU HA HUX c0 c1 c2
        obtain ⟨t, N, ht, rfl, rfl, HN, HU, HA⟩ := hrel
        obtain ⟨c0, c1, c2⟩ := HA.out
        by_cases hl : t < q
        · have hxr := HR.out t (by omega) (by omega)
          have HFx := hid (HFt.out t (by omega) (by omega))
          generalize frgV P q G y c t = X at *
          go_wp2_with fail
          refine (HFx.out _ HU.out).mono ?_
          rintro e w11 ⟨rfl, hU11⟩
          have HA11 := hid (HA.out.up hU11)
          have HU11 := hid (HU.out.trans hU11)
          clear hU11 HA HU c0 c1 c2 HFx
          obtain ⟨c0, c1, c2⟩ := HA11.out
          by_cases hx : X = r
          · have d : (X == r) = true := by simpa using hx
            have hts := hxr.1 hx
            have hN0 : N = 0 := by rw [HN.out, hts]; exact pastN_hit.1
            have HN2 : Hid ((1 : Int) = pastN s ((t + 1 : Nat) : Int)) := hid (by rw [show (((t + 1 : Nat)) : Int) = (t : Int) + 1 by omega, hts]; exact pastN_hit.2.symm)
            subst hN0
            clear hx hts hxr HN
            go_wp2_with fail
            go_roundw
            case rel => exact ⟨t + 1, 1, by omega, by go_num, by go_num, HN2, HU11, HA11⟩
            case measure => simp [intOf]; omega
          · have d : (X == r) = false := by simpa using hx
            have hne : (t : Int) ≠ s := fun h => hx (hxr.2 h)
            have HN2 : Hid (N = pastN s ((t + 1 : Nat) : Int)) := hid (by rw [show (((t + 1 : Nat)) : Int) = (t : Int) + 1 by omega, pastN_same hne]; exact HN.out)
            clear hx hxr hne HN
            go_wp2_with fail
            go_roundw
            case rel => exact ⟨t + 1, N, by omega, by go_num, rfl, HN2, HU11, HA11⟩
            case measure => simp [intOf]; omega
        · obtain rfl : t = q := by omega
          have hN : N = 1 := by rw [HN.out]; exact pastN_end (by omega)
          subst hN
          go_wp2
          go_ret
          exact ⟨rfl, HU.out⟩
end Go.Proofs.YtdlcmpbpdbpanaaDoor
namespace Go.Proofs.YtdlcmpbpdbpanaaDoor.lawSignatureOne
open Go.Proofs.YtdlcmpbpdbpanaaDoor Go.ChangeShapes Go.WideShapes Go.ChangeAt Go.RowKit Go.Sp

set_option maxRecDepth 100000 in
theorem contract (H : Type) (enc : TypeId × Value → H) (W : World) (base : Nat) (args : Array Value) (ds gs : List (DataW H)) (before : List MemPlace)
    (hval : ∀ (j : Nat) t v, Tryd.f8.params[j]? = some t → args[j]? = some v → Value.okWide Tryd.prog W .any base t v)
    (hW : DataW.Whole enc Tryd.prog Tryd.f8.params.toList Rows.signatureOneSpec.vars false W args.toList ds gs before) (hL : laidMetH Tryd.prog Rows.signatureOneRow.laid W) :
    Calls Tryd.prog 8 args W fun e W' => ∃ v, e = .returned v ∧ Rows.signatureOneSpec.post enc Tryd.prog Tryd.f8 false true false false W args v W' := by
  have hT := tab_of_laid hL
  have hW' := hW
  obtain ⟨p, q, hA0, hV, rfl, hfz, hnd⟩ := hW
  have hA : DataW.TrodAll enc Tryd.prog W 0 (fun _ => true) true Tryd.f8.params.toList args.toList ds p := hA0
  rw [Tryd.params8] at hA hval
  obtain ⟨v0, vs0, d0, ds0, p0, q0, hargs, rfl, rfl, h0, r0⟩ := trodAll_cons hA
  obtain ⟨v1, vs1, d1, ds1, p1, q1, rfl, rfl, rfl, h1, r1⟩ := trodAll_cons r0
  obtain ⟨v2, vs2, d2, ds2, p2, q2, rfl, rfl, rfl, h2, r2⟩ := trodAll_cons r1
  obtain ⟨v3, vs3, d3, ds3, p3, q3, rfl, rfl, rfl, h3, r3⟩ := trodAll_cons r2
  obtain ⟨rfl, rfl, rfl⟩ := trodAll_nil r3
  obtain rfl : args = #[v0, v1, v2, v3] := by cases args; simp_all
  obtain ⟨rfl, rfl⟩ := trodVars_none hV
  obtain ⟨P0, Q0, G0, rfl, bP0, bQ0, bG0⟩ := open_grp (hval 0 52 v0 rfl rfl) h0
  obtain ⟨x1, rfl, bx1, by1⟩ := open_i64 (hval 1 3 v1 rfl rfl) h1
  obtain ⟨x2, rfl, bx2, by2⟩ := open_i64 (hval 2 3 v2 rfl rfl) h2
  obtain ⟨x3, rfl, bx3, by3⟩ := open_i64 (hval 3 3 v3 rfl rfl) h3
  refine (SignatureOne_walk P0 Q0 G0 x1 x2 x3 W bP0.1 bQ0.2 hT).mono fun e W' ⟨he, hU⟩ => ?_
  exact ⟨_, he, law_shut Tryd.underlying4 (by kernel_rfl) rfl rfl laidOut (by kernel_rfl) hW' hU⟩

theorem laid_met (os : Os) : laidMet Tryd.prog Rows.signatureOneRow.laid ((World.laidAll Tryd.prog os laidTwo).forCall (fun _ _ => 0) ⟨#[], #[.agg #[.int .i64 0, .int .i64 0, .int .i64 0], .int .i64 0, .int .i64 0, .int .i64 0], []⟩).memory :=
  laidMet_laidAll _ (by kernel_rfl) (by kernel_rfl)
theorem reads (os : Os) {H : Type} (enc : TypeId × Value → H) : ∃ places, DataW.whole enc Tryd.prog ((World.laidAll Tryd.prog os laidTwo).forCall (fun _ _ => 0) ⟨#[], #[.agg #[.int .i64 0, .int .i64 0, .int .i64 0], .int .i64 0, .int .i64 0, .int .i64 0], []⟩).memory Tryd.f8.params.toList Rows.signatureOneSpec.vars false (#[.agg #[.int .i64 0, .int .i64 0, .int .i64 0], .int .i64 0, .int .i64 0, .int .i64 0] : Array Value).toList 8 = some ([.agg [.lit (.int .i64 0), .lit (.int .i64 0), .lit (.int .i64 0)], .lit (.int .i64 0), .lit (.int .i64 0), .lit (.int .i64 0)], [], places) :=
  ⟨[], by kernel_rfl⟩

set_option maxRecDepth 100000 in
theorem lifted (os : Os) (started : os.Started) (H : Type) (enc : TypeId × Value → H) (F : Stop.Interp) :
    ReturnsInHanded {} Tryd.checked os 8 .any ((OpenSpec.ofChange Rows.signatureOneSpec).preRow enc Tryd.prog Tryd.f8 Rows.signatureOneRow.domain false Rows.signatureOneRow.laid) (((OpenSpec.ofChange Rows.signatureOneSpec).at F).post enc Tryd.prog Tryd.f8 false true false false) := by
  obtain ⟨places, hx⟩ := reads os enc
  refine returnsInHanded_of_row (C := Tryd.checked) (s := OpenSpec.ofChange Rows.signatureOneSpec) own started (by kernel_rfl) Tryd.func8
    (witness_row_at (enc := enc) (C := Tryd.checked) false (World.laidAll Tryd.prog os laidTwo) #[.agg #[.int .i64 0, .int .i64 0, .int .i64 0], .int .i64 0, .int .i64 0, .int .i64 0] (World.laidAll_os _ _ _) (by kernel_rfl) (by kernel_rfl) (by kernel_rfl)
      (OpenSpec.preRow_of_cond 8 hx (by kernel_rfl) (fun k hk => by cases hk) (by kernel_rfl) (laid_met os))) ?_
  intro W base args ds gs before hval hW _ _ _ hL _ _
  exact contract H enc W base args ds gs before hval hW hL

theorem said : Rows.SignatureOneSaid :=
  OpenClaim.holds_of_cond 8 Tryd.f8 rfl rfl rfl rfl rfl rfl rfl ⟨rfl, rfl, rfl, rfl, rfl⟩ rfl rfl rfl rfl rfl (by kernel_rfl) Tryd.func8 (by kernel_rfl)
    (of_decide_eq_true (by kernel_rfl)) (by unfold Func.isWrapper; first | (rw [if_pos (by decide +kernel)]; kernel_rfl) | (rw [if_neg (by decide +kernel)]; exact ⟨rfl, rfl⟩))
    (fun os started H enc _ F => by rw [OpenClaim.pre_eq_preRow]; exact lifted os started H enc F)

theorem plain (f : FuncId) (fn : Func) (hf : Tryd.pinned.checked.prog.funcNamed "specie/specielaw22.SignatureOne" = some f) (hfn : Tryd.pinned.checked.prog.funcs[f]? = some fn) :
    false = Tryd.pinned.checked.prog.looks [] ∧ ∀ (j : Nat) t, fn.params[j]? = some t → Tryd.pinned.checked.prog.wantsStandIn t = false := by
  obtain rfl : f = 8 := Option.some.inj ((show Tryd.prog.funcNamed "specie/specielaw22.SignatureOne" = some 8 by kernel_rfl).symm.trans hf) |>.symm
  obtain rfl : fn = Tryd.f8 := (Option.some.inj (Tryd.func8.symm.trans hfn)).symm
  refine ⟨by kernel_rfl, fun j t ht => ?_⟩
  have hall : Tryd.f8.params.toList.all (fun t => !Tryd.prog.wantsStandIn t) = true := by kernel_rfl
  have := List.all_eq_true.1 hall t (by rw [← Array.mem_toList_iff.symm]; exact Array.mem_of_getElem? ht)
  exact (by simpa using this : Tryd.prog.wantsStandIn t = false)

/-- The card. -/
theorem card : Rows.SignatureOneCardSaid :=
  Claim7.holds_tied_plain_at .later [] _ _ _ _ said (fun _ h => by cases h) (by kernel_rfl) (fun _ h => by cases h) signatureOne_row_tie rfl ⟨rfl, rfl⟩ (by kernel_rfl) rfl plain (by kernel_rfl)
end Go.Proofs.YtdlcmpbpdbpanaaDoor.lawSignatureOne
