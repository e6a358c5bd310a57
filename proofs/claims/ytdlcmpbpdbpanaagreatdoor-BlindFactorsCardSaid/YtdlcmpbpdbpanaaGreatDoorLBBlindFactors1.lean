/- Factors returns the factors of the reference, and Count 1, or the specified errors: specielaw23.BlindFactors returns true. For every input; the tables of packages math/bits, prime and digest as the program's text lays them. The closed facts of the row of specielaw23.BlindFactors, one by one: all at once they outgrow the memory. BlindFactors: the walk. -/
import Derived.Test.YtdlcmpbpdbpanaaGreatDoorMB29
import Derived.Test.YtdlcmpbpdbpanaaGreatDoorRows
import Derived.Test.YtdlcmpbpdbpanaaGreatDoorMB31
import Derived.JoinedCond
import Derived.KernelRfl
import Derived.Lay
namespace Go.Proofs.YtdlcmpbpdbpanaaGreatDoor
open Go.RowKit Go.Sp
set_option maxHeartbeats 4000000
set_option maxRecDepth 20000

theorem BlindFactors_walk (P Q G y r c s : Int) (v : Value) (m : List Int) (sc ss : Int) (w : World) (hP : -9223372036854775808 ≤ P) (hQ : Q ≤ 9223372036854775807) (hT : Tab w) (hS : TabS w) (hv : SeqAt .u8 w v m) (hm : ∀ x ∈ m, 0 ≤ x ∧ x ≤ 255) :
    Calls Tryz.prog 10 #[grp P Q G, .int .i64 y, .agg #[.int .i64 r, .int .i64 c, .int .i64 s], v, .agg #[.int .i64 sc, .int .i64 ss]] w fun e w' => e = .returned (.bool true) ∧ Up w w' := by
  have HT := hid hT
  have HS := hid hS
  have M1 := hid (fun w' (hU : Up w w') => bliFactors_any P Q G y r c s v m sc ss w' hP hQ (hT.up hU) (hS.up hU) (hv.up hU) hm)
  have M2 := hid (fun w' (hU : Up w w') => bliCount_any P Q G y r c s v m sc ss w' hP hQ (hT.up hU) (hS.up hU) (hv.up hU) hm)
  have M3 := hid (fun w' (hU : Up w w') => r23First_any P Q G y r c s v m sc ss w' hP hQ (hv.up hU) hm)
  have M4 := hid (fun (h : gvnE P Q G y r c s m sc ss = 0) w' => by
    obtain ⟨h1, h2, h3⟩ := gvnE_zero h
    obtain ⟨_, _, _, h4, h5, _⟩ := chkB_ok h2
    obtain ⟨_, _, h6, h7, _⟩ := verS_ok h3
    exact r23Factors_ok P Q G r c s sc ss w' h1 h4 h5 h6 h7)
  generalize gvnE P Q G y r c s m sc ss = E at *
  generalize (ss - s) % Q = X1 at *
  generalize (c - sc) % Q = X2 at *
  have eX1 : (X1 != X1) = false := by simp
  have eX2 : (X2 != X2) = false := by simp
  obtain ⟨va, vc, rfl, _, _⟩ := hv.shape
  obtain ⟨n, hn⟩ : ∃ n, m.length = n := ⟨_, rfl⟩
  rw [hn] at M1 M2 M3 ⊢
  obtain ⟨o, ho⟩ : ∃ o, w.heap.size = o := ⟨_, rfl⟩
  have HO := hid ho
  obtain ⟨o1, ho1⟩ : ∃ o1, o + 1 = o1 := ⟨_, rfl⟩
  have HO1 := hid ho1
  obtain ⟨o2, ho2⟩ : ∃ o2, o1 + 1 = o2 := ⟨_, rfl⟩
  have HO2 := hid ho2
  clear hT hS hv hm hn ho ho1 ho2
  go_enter Tryz.func10, Tryz.ntmps10
  go_wp2_with fail
  refine (awake23 _ (HT.out.up ((((Up.refl w).alloc _).alloc _).alloc _)) (HS.out.up ((((Up.refl w).alloc _).alloc _).alloc _))).mono ?_
  rintro e w1 ⟨rfl, hU1⟩
  have HA1 := hid (((nums_three (w := w) (t := 23) HO.out).up (((Up.refl _).alloc _).alloc _)).up hU1)
  have HV1 := hid (((nums_three (r := o1) (t := 80) (by have := HO.out; have := HO1.out; have := HO2.out; simp; omega)).up ((Up.refl _).alloc _)).up hU1)
  have HS1 := hid (((nums_two (r := o2) (t := 67) (x := sc) (y := ss) (by have := HO.out; have := HO1.out; have := HO2.out; simp; omega))).up hU1)
  have HU1 := hid (((((Up.refl w).alloc _).alloc _).alloc _).trans hU1)
  clear hU1
  rw [HO.out, HO1.out, HO2.out]
  obtain ⟨c0, c1, c2⟩ := HA1.out
  obtain ⟨v0, v1, v2⟩ := HV1.out
  obtain ⟨s0, s1⟩ := HS1.out
  by_cases hl : n > 1000
  case pos =>
    have dl : decide ((n : Int) > 1000) = true := by simp; omega
    clear hl
    go_wp2_with fail
    refine (awake23 _ (HT.out.up (HU1.out)) (HS.out.up (HU1.out))).mono ?_
    rintro e w2 ⟨rfl, hU2⟩
    have HA2 := hid (HA1.out.up hU2)
    have HV2 := hid (HV1.out.up hU2)
    have HS2 := hid (HS1.out.up hU2)
    have HU2 := hid (HU1.out.trans hU2)
    clear hU2 HA1 HV1 HS1 HU1 c0 c1 c2 v0 v1 v2 s0 s1
    go_wp2
    go_ret
    exact ⟨rfl, HU2.out⟩
  have dl : decide ((n : Int) > 1000) = false := by simp; omega
  go_wp2_with fail
  refine (M1.out _ (HU1.out)).mono ?_
  rintro e w2 ⟨rfl, hU2⟩
  have HA2 := hid (HA1.out.up hU2)
  have HV2 := hid (HV1.out.up hU2)
  have HS2 := hid (HS1.out.up hU2)
  have HU2 := hid (HU1.out.trans hU2)
  clear hU2 HA1 HV1 HS1 HU1 c0 c1 c2 v0 v1 v2 s0 s1
  obtain ⟨c0, c1, c2⟩ := HA2.out
  obtain ⟨v0, v1, v2⟩ := HV2.out
  obtain ⟨s0, s1⟩ := HS2.out
  go_wp2_with fail
  refine (M2.out _ (HU2.out)).mono ?_
  rintro e w3 ⟨rfl, hU3⟩
  have HA3 := hid (HA2.out.up hU3)
  have HV3 := hid (HV2.out.up hU3)
  have HS3 := hid (HS2.out.up hU3)
  have HU3 := hid (HU2.out.trans hU3)
  clear hU3 HA2 HV2 HS2 HU2 c0 c1 c2 v0 v1 v2 s0 s1
  obtain ⟨c0, c1, c2⟩ := HA3.out
  obtain ⟨v0, v1, v2⟩ := HV3.out
  obtain ⟨s0, s1⟩ := HS3.out
  go_wp2_with fail
  refine (M3.out _ (HU3.out)).mono ?_
  rintro e w4 ⟨rfl, hU4⟩
  have HA4 := hid (HA3.out.up hU4)
  have HV4 := hid (HV3.out.up hU4)
  have HS4 := hid (HS3.out.up hU4)
  have HU4 := hid (HU3.out.trans hU4)
  clear hU4 HA3 HV3 HS3 HU3 c0 c1 c2 v0 v1 v2 s0 s1
  obtain ⟨c0, c1, c2⟩ := HA4.out
  obtain ⟨v0, v1, v2⟩ := HV4.out
  obtain ⟨s0, s1⟩ := HS4.out
  by_cases hE : E = 0
  case neg =>
    have d : (E != 0) = true := by simpa using hE
    have e1 : (E == E) = true := by simp
    rw [show orZ E X1 = 0 by rw [orZ, if_neg hE], show orZ E X2 = 0 by rw [orZ, if_neg hE], show cntE E Q = E by rw [cntE, if_neg hE], show orZ E 1 = 0 by rw [orZ, if_neg hE]]
    clear hE hl
    go_wp2
    go_ret
    exact ⟨rfl, HU4.out⟩
  have N4 := hid (M4.out hE)
  subst hE
  rw [show orZ 0 X1 = X1 from rfl, show orZ 0 X2 = X2 from rfl]
  obtain ⟨C, hC⟩ : ∃ C, cntE 0 Q = C := ⟨_, rfl⟩
  rw [hC]
  clear M4 hl
  go_wp2_with fail
  refine (N4.out _).mono ?_
  rintro e w5 ⟨rfl, hU5⟩
  have HA5 := hid (HA4.out.up hU5)
  have HV5 := hid (HV4.out.up hU5)
  have HS5 := hid (HS4.out.up hU5)
  have HU5 := hid (HU4.out.trans hU5)
  clear hU5 HA4 HV4 HS4 HU4 c0 c1 c2 v0 v1 v2 s0 s1
  obtain ⟨c0, c1, c2⟩ := HA5.out
  obtain ⟨v0, v1, v2⟩ := HV5.out
  obtain ⟨s0, s1⟩ := HS5.out
  by_cases hq : Q > 113
  · have d1 : decide (Q > 113) = true := by simpa using hq
    have hC9 : C = 9 := by rw [← hC, cntE, if_pos rfl, if_pos hq]
    subst hC9
    rw [show orZ 9 1 = 0 from rfl]
    clear hq hC
    go_wp2
    go_ret
    exact ⟨rfl, HU5.out⟩
  · have d1 : decide (Q > 113) = false := by simpa using hq
    have hC9 : C = 0 := by rw [← hC, cntE, if_pos rfl, if_neg hq]
    subst hC9
    rw [show orZ 0 1 = 1 from rfl]
    clear hq hC
    go_wp2
    go_ret
    exact ⟨rfl, HU5.out⟩
end Go.Proofs.YtdlcmpbpdbpanaaGreatDoor
namespace Go.Proofs.YtdlcmpbpdbpanaaGreatDoor.lawBlindFactors
open Go.Proofs.YtdlcmpbpdbpanaaGreatDoor
theorem fact1 : (Rows.blindFactorsRow.wf (OpenSpec.ofChange (OpenSpec.ofChange Rows.blindFactorsSpec).bare) : Bool) = true := by kernel_rfl
theorem fact2 : (laidOutB Tryz.pinned.checked.prog : Bool) = true := by kernel_rfl
theorem fact3 : (mapsRowed Tryz.pinned.checked.prog : Bool) = true := by kernel_rfl
theorem fact4 : (Tryz.f10.params.all (Tryz.pinned.checked.prog.readableRec ·) : Bool) = true := by kernel_rfl
theorem fact5 : (namedTie Tryz.pinned.checked.prog Rows.blindFactorsRow.named (OpenSpec.ofChange Rows.blindFactorsSpec).bare.vars : Bool) = true := by kernel_rfl
theorem fact6 : ((Rows.blindFactorsRow.stops == []) : Bool) = true := by kernel_rfl
theorem fact7 : ((Tryz.pinned.checked.prog.stops == []) : Bool) = true := by kernel_rfl
theorem fact8 : ((Rows.blindFactorsRow.knobs == []) : Bool) = true := by kernel_rfl
theorem fact9 : ((Tryz.pinned.checked.prog.stopKnobs == []) : Bool) = true := by kernel_rfl
theorem fact10 : ((Rows.blindFactorsRow.inPlace == Tryz.pinned.checked.prog.inPlace 10) : Bool) = true := by kernel_rfl
theorem fact11 : ((Rows.blindFactorsRow.unfollowed == Tryz.pinned.checked.prog.unfollowed 10) : Bool) = true := by kernel_rfl
theorem fact12 : ((Rows.blindFactorsRow.recurses == Tryz.pinned.checked.prog.recurses 10) : Bool) = true := by kernel_rfl
theorem fact13 : ((Rows.blindFactorsRow.named == Tryz.pinned.checked.prog.varsNamed 10) : Bool) = true := by kernel_rfl
theorem fact14 : ((Rows.blindFactorsRow.maps == (Tryz.f10.params.toList ++ (OpenSpec.ofChange Rows.blindFactorsSpec).bare.plain.varTypes Tryz.pinned.checked.prog).any (Tryz.pinned.checked.prog.mapsRec ·)) : Bool) = true := by kernel_rfl
theorem fact15 : ((Rows.blindFactorsRow.ifaces == (Tryz.f10.params.toList ++ (OpenSpec.ofChange Rows.blindFactorsSpec).bare.plain.varTypes Tryz.pinned.checked.prog).any (Tryz.pinned.checked.prog.ifacesRec ·)) : Bool) = true := by kernel_rfl
theorem fact16 : ((Rows.blindFactorsRow.mapsOut == Tryz.pinned.checked.prog.mapsAmong Tryz.f10.resultTypes.toList) : Bool) = true := by kernel_rfl
theorem fact17 : ((Rows.blindFactorsRow.loops == (Tryz.f10.params.toList ++ (OpenSpec.ofChange Rows.blindFactorsSpec).bare.plain.varTypes Tryz.pinned.checked.prog).any (Tryz.pinned.checked.prog.loopsFrom ·)) : Bool) = true := by kernel_rfl
theorem fact18 : ((Rows.blindFactorsRow.wideKeys == (Tryz.f10.params.toList ++ (OpenSpec.ofChange Rows.blindFactorsSpec).bare.plain.varTypes Tryz.pinned.checked.prog ++ Tryz.f10.resultTypes.toList).any (Tryz.pinned.checked.prog.wideKeysFrom ·)) : Bool) = true := by kernel_rfl
theorem fact19 : ((OpenSpec.ofChange Rows.blindFactorsSpec).bare.vars.all (Tryz.pinned.checked.prog.varReadable ·) : Bool) = true := by kernel_rfl
theorem fact20 : (Tryz.f10.resultTypes.all (fun t => Tryz.pinned.checked.prog.readableRec t && decide (t < Tryz.pinned.checked.prog.types.size)) : Bool) = true := by kernel_rfl
theorem fact21 : ((Rows.blindFactorsRow.ifacesOut == Tryz.f10.resultTypes.toList.any (Tryz.pinned.checked.prog.ifacesRec ·)) : Bool) = true := by kernel_rfl
theorem fact22 : ((Rows.blindFactorsRow.loopsOut == Tryz.f10.resultTypes.toList.any (Tryz.pinned.checked.prog.loopsFrom ·)) : Bool) = true := by kernel_rfl
theorem fact23 : ((Rows.blindFactorsRow.plainKeys == Tryz.pinned.checked.prog.plainKeys) : Bool) = true := by kernel_rfl
theorem fact24 : (Rows.blindFactorsRow.shortTexts.isNone : Bool) = true := by kernel_rfl
theorem fact25 : (Tryz.pinned.checked.prog.stopsHeard : Bool) = true := by kernel_rfl
theorem fact26 : (Tryz.pinned.checked.prog.mayEnter : Bool) = true := by kernel_rfl
theorem fact27 : ((Rows.blindFactorsRow.lifted == Tryz.pinned.checked.prog.liftsFinal) : Bool) = true := by kernel_rfl
theorem fact28 : ((Tryz.pinned.checked.prog.make == some Rows.blindFactorsRow.make) : Bool) = true := by kernel_rfl
theorem fact29 : ((Rows.blindFactorsRow.kinds == (if Rows.blindFactorsRow.domain.isEmpty then [] else Tryz.f10.params.toList.map fun t => match Tryz.pinned.checked.prog.underlying t with | some (.int k) => some k | _ => none)) : Bool) = true := by kernel_rfl
theorem fact30 : ((Rows.blindFactorsRow.pinned == Rows.blindFactorsRow.pinnedBy) : Bool) = true := by kernel_rfl
theorem fact31 : ((Rows.blindFactorsRow.veiled == (Tryz.f10.params.toList ++ (OpenSpec.ofChange Rows.blindFactorsSpec).bare.plain.varTypes Tryz.pinned.checked.prog ++ Tryz.f10.resultTypes.toList).any (Tryz.pinned.checked.prog.veiledRec ·)) : Bool) = true := by kernel_rfl
theorem fact32 : (Rows.blindFactorsRow.veiledFits Tryz.pinned.checked.prog Tryz.f10.params.toList (Tryz.f10.params.toList ++ (OpenSpec.ofChange Rows.blindFactorsSpec).bare.plain.varTypes Tryz.pinned.checked.prog ++ Tryz.f10.resultTypes.toList) : Bool) = true := by kernel_rfl
theorem andB {a b : Bool} (h : a = true) (k : b = true) : (a && b) = true := by rw [h, k]; rfl
set_option maxRecDepth 100000 in
theorem closed : joinedFacts Tryz.pinned.checked.prog 10 Tryz.f10 (OpenSpec.ofChange Rows.blindFactorsSpec).bare Rows.blindFactorsRow = true := by
  unfold joinedFacts
  exact (andB (andB (andB (andB (andB (andB (andB (andB (andB (andB (andB (andB (andB (andB (andB (andB (andB (andB (andB (andB (andB (andB (andB (andB (andB (andB (andB (andB (andB (andB (andB fact1 fact2) fact3) fact4) fact5) fact6) fact7) fact8) fact9) fact10) fact11) fact12) fact13) fact14) fact15) fact16) fact17) fact18) fact19) fact20) fact21) fact22) fact23) fact24) fact25) fact26) fact27) fact28) fact29) fact30) fact31) fact32)
end Go.Proofs.YtdlcmpbpdbpanaaGreatDoor.lawBlindFactors
namespace Go.Proofs.YtdlcmpbpdbpanaaGreatDoor.lawBlindFactors
open Go.Proofs.YtdlcmpbpdbpanaaGreatDoor Go.ChangeShapes Go.WideShapes Go.ChangeAt Go.RowKit Go.Sp

set_option maxRecDepth 100000 in
theorem contract (H : Type) (enc : TypeId × Value → H) (W : World) (base : Nat) (args : Array Value) (ds gs : List (DataW H)) (before : List MemPlace)
    (hval : ∀ (j : Nat) t v, Tryz.f10.params[j]? = some t → args[j]? = some v → Value.okWide Tryz.prog W .any base t v)
    (hW : DataW.Whole enc Tryz.prog Tryz.f10.params.toList Rows.blindFactorsSpec.vars false W args.toList ds gs before) (hL : laidMetH Tryz.prog Rows.blindFactorsRow.laid W) :
    Calls Tryz.prog 10 args W fun e W' => ∃ v, e = .returned v ∧ Rows.blindFactorsSpec.post enc Tryz.prog Tryz.f10 false true false false W args v W' := by
  have hT := tab_of_four hL
  have hS := tabS_of_four hL
  have hW' := hW
  obtain ⟨p, q, hA0, hV, rfl, hfz, hnd⟩ := hW
  have hA : DataW.TrodAll enc Tryz.prog W 0 (fun _ => true) true Tryz.f10.params.toList args.toList ds p := hA0
  rw [Tryz.params10] at hA hval
  obtain ⟨v0, vs0, d0, ds0, p0, q0, hargs, rfl, rfl, h0, r0⟩ := trodAll_cons hA
  obtain ⟨v1, vs1, d1, ds1, p1, q1, rfl, rfl, rfl, h1, r1⟩ := trodAll_cons r0
  obtain ⟨v2, vs2, d2, ds2, p2, q2, rfl, rfl, rfl, h2, r2⟩ := trodAll_cons r1
  obtain ⟨v3, vs3, d3, ds3, p3, q3, rfl, rfl, rfl, h3, r3⟩ := trodAll_cons r2
  obtain ⟨v4, vs4, d4, ds4, p4, q4, rfl, rfl, rfl, h4, r4⟩ := trodAll_cons r3
  obtain ⟨rfl, rfl, rfl⟩ := trodAll_nil r4
  obtain rfl : args = #[v0, v1, v2, v3, v4] := by cases args; simp_all
  obtain ⟨rfl, rfl⟩ := trodVars_none hV
  obtain ⟨P0, Q0, G0, rfl, bP0, bQ0, bG0⟩ := open_grp (hval 0 23 v0 rfl rfl) h0
  obtain ⟨x1, rfl, bx1, by1⟩ := open_i64 (hval 1 3 v1 rfl rfl) h1
  obtain ⟨x2a, x2b, x2c, rfl, b2⟩ := open_bview (hval 2 80 v2 rfl rfl) h2
  obtain ⟨xs3, hs3, bs3⟩ := open_bytes (hval 3 51 v3 rfl rfl) h3
  obtain ⟨x4a, x4b, rfl, b4⟩ := open_sig (hval 4 67 v4 rfl rfl) h4
  refine (BlindFactors_walk P0 Q0 G0 x1 x2a x2b x2c v3 xs3 x4a x4b W bP0.1 bQ0.2 hT hS hs3 bs3).mono fun e W' ⟨he, hU⟩ => ?_
  exact ⟨_, he, law_shut Tryz.underlying4 (by kernel_rfl) rfl rfl laidOut (by kernel_rfl) hW' hU⟩

theorem laid_met (os : Os) : laidMet Tryz.prog Rows.blindFactorsRow.laid ((World.laidAll Tryz.prog os laidFour).forCall (fun _ _ => 0) ⟨#[], #[.agg #[.int .i64 0, .int .i64 0, .int .i64 0], .int .i64 0, .agg #[.int .i64 0, .int .i64 0, .int .i64 0], .slice none 0 0, .agg #[.int .i64 0, .int .i64 0]], []⟩).memory :=
  laidMet_laidAll _ (by kernel_rfl) (by kernel_rfl)
theorem reads (os : Os) {H : Type} (enc : TypeId × Value → H) : ∃ places, DataW.whole enc Tryz.prog ((World.laidAll Tryz.prog os laidFour).forCall (fun _ _ => 0) ⟨#[], #[.agg #[.int .i64 0, .int .i64 0, .int .i64 0], .int .i64 0, .agg #[.int .i64 0, .int .i64 0, .int .i64 0], .slice none 0 0, .agg #[.int .i64 0, .int .i64 0]], []⟩).memory Tryz.f10.params.toList Rows.blindFactorsSpec.vars false (#[.agg #[.int .i64 0, .int .i64 0, .int .i64 0], .int .i64 0, .agg #[.int .i64 0, .int .i64 0, .int .i64 0], .slice none 0 0, .agg #[.int .i64 0, .int .i64 0]] : Array Value).toList 8 = some ([.agg [.lit (.int .i64 0), .lit (.int .i64 0), .lit (.int .i64 0)], .lit (.int .i64 0), .agg [.lit (.int .i64 0), .lit (.int .i64 0), .lit (.int .i64 0)], .nil, .agg [.lit (.int .i64 0), .lit (.int .i64 0)]], [], places) :=
  ⟨[], by kernel_rfl⟩

set_option maxRecDepth 100000 in
theorem lifted (os : Os) (started : os.Started) (H : Type) (enc : TypeId × Value → H) (F : Stop.Interp) :
    ReturnsInHanded {} Tryz.checked os 10 .any ((OpenSpec.ofChange Rows.blindFactorsSpec).preRow enc Tryz.prog Tryz.f10 Rows.blindFactorsRow.domain false Rows.blindFactorsRow.laid) (((OpenSpec.ofChange Rows.blindFactorsSpec).at F).post enc Tryz.prog Tryz.f10 false true false false) := by
  obtain ⟨places, hx⟩ := reads os enc
  refine returnsInHanded_of_row (C := Tryz.checked) (s := OpenSpec.ofChange Rows.blindFactorsSpec) own started (by kernel_rfl) Tryz.func10
    (witness_row_at (enc := enc) (C := Tryz.checked) false (World.laidAll Tryz.prog os laidFour) #[.agg #[.int .i64 0, .int .i64 0, .int .i64 0], .int .i64 0, .agg #[.int .i64 0, .int .i64 0, .int .i64 0], .slice none 0 0, .agg #[.int .i64 0, .int .i64 0]] (World.laidAll_os _ _ _) (by kernel_rfl) (by kernel_rfl) (by kernel_rfl)
      (OpenSpec.preRow_of_cond 8 hx (by kernel_rfl) (fun k hk => by cases hk) (by kernel_rfl) (laid_met os))) ?_
  intro W base args ds gs before hval hW _ _ _ hL _ _
  exact contract H enc W base args ds gs before hval hW hL

theorem said : Rows.BlindFactorsSaid :=
  OpenClaim.holds_of_cond 10 Tryz.f10 rfl rfl rfl rfl rfl rfl rfl ⟨rfl, rfl, rfl, rfl, rfl⟩ rfl rfl rfl rfl rfl (by kernel_rfl) Tryz.func10 closed
    (of_decide_eq_true (by kernel_rfl)) (by unfold Func.isWrapper; first | (rw [if_pos (by decide +kernel)]; kernel_rfl) | (rw [if_neg (by decide +kernel)]; exact ⟨rfl, rfl⟩))
    (fun os started H enc _ F => by rw [OpenClaim.pre_eq_preRow]; exact lifted os started H enc F)

theorem plain (f : FuncId) (fn : Func) (hf : Tryz.pinned.checked.prog.funcNamed "specie/specielaw23.BlindFactors" = some f) (hfn : Tryz.pinned.checked.prog.funcs[f]? = some fn) :
    false = Tryz.pinned.checked.prog.looks [] ∧ ∀ (j : Nat) t, fn.params[j]? = some t → Tryz.pinned.checked.prog.wantsStandIn t = false := by
  obtain rfl : f = 10 := Option.some.inj ((show Tryz.prog.funcNamed "specie/specielaw23.BlindFactors" = some 10 by kernel_rfl).symm.trans hf) |>.symm
  obtain rfl : fn = Tryz.f10 := (Option.some.inj (Tryz.func10.symm.trans hfn)).symm
  refine ⟨by kernel_rfl, fun j t ht => ?_⟩
  have hall : Tryz.f10.params.toList.all (fun t => !Tryz.prog.wantsStandIn t) = true := by kernel_rfl
  have := List.all_eq_true.1 hall t (by rw [← Array.mem_toList_iff.symm]; exact Array.mem_of_getElem? ht)
  exact (by simpa using this : Tryz.prog.wantsStandIn t = false)

/-- The card. -/
theorem card : Rows.BlindFactorsCardSaid :=
  Claim7.holds_tied_plain_at .later [] _ _ _ _ said (fun _ h => by cases h) (by kernel_rfl) (fun _ h => by cases h) blindFactors_row_tie rfl ⟨rfl, rfl⟩ (by kernel_rfl) rfl plain (by kernel_rfl)
end Go.Proofs.YtdlcmpbpdbpanaaGreatDoor.lawBlindFactors
