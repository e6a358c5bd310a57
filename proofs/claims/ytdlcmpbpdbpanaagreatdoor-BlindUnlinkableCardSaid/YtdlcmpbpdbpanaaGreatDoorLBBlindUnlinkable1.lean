/- Every right view and every right signature are explained by exactly one pair of blinding factors: specielaw23.BlindUnlinkable returns true. For every input; the tables of packages math/bits, prime and digest as the program's text lays them. The closed facts of the row of specielaw23.BlindUnlinkable, one by one: all at once they outgrow the memory. BlindUnlinkable: the walk. -/
import Derived.Test.YtdlcmpbpdbpanaaGreatDoorMB26
import Derived.Test.YtdlcmpbpdbpanaaGreatDoorMB27
import Derived.Test.YtdlcmpbpdbpanaaGreatDoorRows
import Derived.Test.YtdlcmpbpdbpanaaGreatDoorMB31
import Derived.JoinedCond
import Derived.KernelRfl
import Derived.Lay
namespace Go.Proofs.YtdlcmpbpdbpanaaGreatDoor
open Go.RowKit Go.Sp
set_option maxHeartbeats 4000000
set_option maxRecDepth 20000

theorem BlindUnlinkable_walk (P Q G y r c s : Int) (v : Value) (m : List Int) (sc ss : Int) (w : World) (hP : -9223372036854775808 ≤ P) (hQ : Q ≤ 9223372036854775807) (hT : Tab w) (hS : TabS w) (hv : SeqAt .u8 w v m) (hm : ∀ x ∈ m, 0 ≤ x ∧ x ≤ 255) :
    Calls Tryz.prog 13 #[grp P Q G, .int .i64 y, .agg #[.int .i64 r, .int .i64 c, .int .i64 s], v, .agg #[.int .i64 sc, .int .i64 ss]] w fun e w' => e = .returned (.bool true) ∧ Up w w' := by
  have HT := hid hT
  have HS := hid hS
  have HV := hid hv
  have HM := hid hm
  obtain ⟨va, vc, rfl, _, _⟩ := hv.shape
  obtain ⟨n, hn⟩ : ∃ n, m.length = n := ⟨_, rfl⟩
  have HN := hid hn
  rw [hn] at HV ⊢
  obtain ⟨o, ho⟩ : ∃ o, w.heap.size = o := ⟨_, rfl⟩
  have HO := hid ho
  obtain ⟨o1, ho1⟩ : ∃ o1, o + 1 = o1 := ⟨_, rfl⟩
  have HO1 := hid ho1
  obtain ⟨o2, ho2⟩ : ∃ o2, o1 + 1 = o2 := ⟨_, rfl⟩
  have HO2 := hid ho2
  clear hT hS hv hm hn ho ho1 ho2
  go_enter Tryz.func13, Tryz.ntmps13
  go_wp2_with fail
  refine (awake23 _ (HT.out.up ((((Up.refl w).alloc _).alloc _).alloc _)) (HS.out.up ((((Up.refl w).alloc _).alloc _).alloc _))).mono ?_
  rintro e w1 ⟨rfl, hU1⟩
  have HA1 := hid (((nums_three (w := w) (t := 23) HO.out).up (((Up.refl _).alloc _).alloc _)).up hU1)
  have HV1 := hid (((nums_three (r := o1) (t := 80) (by have := HO.out; have := HO1.out; have := HO2.out; simp; omega)).up ((Up.refl _).alloc _)).up hU1)
  have HS1 := hid (((nums_two (r := o2) (t := 67) (x := sc) (y := ss) (by have := HO.out; have := HO1.out; have := HO2.out; simp; omega))).up hU1)
  have HU1 := hid (((((Up.refl w).alloc _).alloc _).alloc _).trans hU1)
  clear hU1
  rw [HO.out, HO1.out, HO2.out]
  obtain ⟨c0, c1, c2⟩ := HA1.out
  obtain ⟨v0, v1, v2⟩ := HV1.out
  obtain ⟨s0, s1⟩ := HS1.out
  by_cases hl : n > 1000
  case pos =>
    have dl : decide ((n : Int) > 1000) = true := by simp; omega
    clear hl
    go_wp2_with fail
    refine (awake23 _ (HT.out.up (HU1.out)) (HS.out.up (HU1.out))).mono ?_
    rintro e w2 ⟨rfl, hU2⟩
    have HA2 := hid (HA1.out.up hU2)
    have HV2 := hid (HV1.out.up hU2)
    have HS2 := hid (HS1.out.up hU2)
    have HU2 := hid (HU1.out.trans hU2)
    clear hU2 HA1 HV1 HS1 HU1 c0 c1 c2 v0 v1 v2 s0 s1
    go_wp2
    go_ret
    exact ⟨rfl, HU2.out⟩
  have dl : decide ((n : Int) > 1000) = false := by simp; omega
  go_wp2_with fail
  refine (rValid_any P Q G _ hP hQ).mono ?_
  rintro e w2 ⟨rfl, hU2⟩
  have HA2 := hid (HA1.out.up hU2)
  have HV2 := hid (HV1.out.up hU2)
  have HS2 := hid (HS1.out.up hU2)
  have HU2 := hid (HU1.out.trans hU2)
  clear hU2 HA1 HV1 HS1 HU1 c0 c1 c2 v0 v1 v2 s0 s1
  obtain ⟨c0, c1, c2⟩ := HA2.out
  obtain ⟨v0, v1, v2⟩ := HV2.out
  obtain ⟨s0, s1⟩ := HS2.out
  by_cases h : gvB P Q G = true
  case neg =>
    have h' : gvB P Q G = false := by simpa using h
    rw [h']
    clear h h'
    go_wp2_with fail
    refine (awake23 _ (HT.out.up (HU2.out)) (HS.out.up (HU2.out))).mono ?_
    rintro e w3 ⟨rfl, hU3⟩
    have HA3 := hid (HA2.out.up hU3)
    have HV3 := hid (HV2.out.up hU3)
    have HS3 := hid (HS2.out.up hU3)
    have HU3 := hid (HU2.out.trans hU3)
    clear hU3 HA2 HV2 HS2 HU2 c0 c1 c2 v0 v1 v2 s0 s1
    go_wp2
    go_ret
    exact ⟨rfl, HU3.out⟩
  have hg := h
  rw [h]
  clear h
  go_wp2_with fail
  refine (bliCheck_any P Q G y r c s _ hP hQ (HT.out.up (HU2.out))).mono ?_
  rintro e w3 ⟨rfl, hU3⟩
  have HA3 := hid (HA2.out.up hU3)
  have HV3 := hid (HV2.out.up hU3)
  have HS3 := hid (HS2.out.up hU3)
  have HU3 := hid (HU2.out.trans hU3)
  clear hU3 HA2 HV2 HS2 HU2 c0 c1 c2 v0 v1 v2 s0 s1
  obtain ⟨c0, c1, c2⟩ := HA3.out
  obtain ⟨v0, v1, v2⟩ := HV3.out
  obtain ⟨s0, s1⟩ := HS3.out
  by_cases h : chkB P Q G y r c s = true
  case neg =>
    have h' : chkB P Q G y r c s = false := by simpa using h
    rw [h']
    clear h h'
    go_wp2_with fail
    refine (awake23 _ (HT.out.up (HU3.out)) (HS.out.up (HU3.out))).mono ?_
    rintro e w4 ⟨rfl, hU4⟩
    have HA4 := hid (HA3.out.up hU4)
    have HV4 := hid (HV3.out.up hU4)
    have HS4 := hid (HS3.out.up hU4)
    have HU4 := hid (HU3.out.trans hU4)
    clear hU4 HA3 HV3 HS3 HU3 c0 c1 c2 v0 v1 v2 s0 s1
    go_wp2
    go_ret
    exact ⟨rfl, HU4.out⟩
  have hc := h
  rw [h]
  clear h
  go_wp2_with fail
  refine (sigVerify_any P Q G y sc ss _ m _ hP hQ (HT.out.up (HU3.out)) (HS.out.up (HU3.out)) (HV.out.up (HU3.out)) HM.out).mono ?_
  rintro e w4 ⟨rfl, hU4⟩
  have HA4 := hid (HA3.out.up hU4)
  have HV4 := hid (HV3.out.up hU4)
  have HS4 := hid (HS3.out.up hU4)
  have HU4 := hid (HU3.out.trans hU4)
  clear hU4 HA3 HV3 HS3 HU3 c0 c1 c2 v0 v1 v2 s0 s1
  obtain ⟨c0, c1, c2⟩ := HA4.out
  obtain ⟨v0, v1, v2⟩ := HV4.out
  obtain ⟨s0, s1⟩ := HS4.out
  by_cases h : verS P Q G y m sc ss = true
  case neg =>
    have h' : verS P Q G y m sc ss = false := by simpa using h
    rw [h']
    clear h h'
    go_wp2_with fail
    refine (awake23 _ (HT.out.up (HU4.out)) (HS.out.up (HU4.out))).mono ?_
    rintro e w5 ⟨rfl, hU5⟩
    have HA5 := hid (HA4.out.up hU5)
    have HV5 := hid (HV4.out.up hU5)
    have HS5 := hid (HS4.out.up hU5)
    have HU5 := hid (HU4.out.trans hU5)
    clear hU5 HA4 HV4 HS4 HU4 c0 c1 c2 v0 v1 v2 s0 s1
    go_wp2
    go_ret
    exact ⟨rfl, HU5.out⟩
  have hvs := h
  rw [h]
  clear h
  obtain ⟨al, be, K, H⟩ := joined_all hc hvs
  have hMf := fun w' (hU : Up w w') => bliFactors_any P Q G y r c s _ m sc ss w' hP hQ (HT.out.up hU) (HS.out.up hU) (HV.out.up hU) HM.out
  rw [H.given, H.fal, H.fbe, show orZ 0 al = al from rfl, show orZ 0 be = be from rfl] at hMf
  have hM1 := fun w' => r23Scalar_any P Q G al w'
  rw [H.ala] at hM1
  have hM2 := fun w' => r23Scalar_any P Q G be w'
  rw [H.bea] at hM2
  have hMb := fun w' (hU : Up w w') => bliBlind_any P Q G y r al be _ m w' hP hQ (HT.out.up hU) (HS.out.up hU) (HV.out.up hU) HM.out
  rw [H.blind, H.com, H.chal, H.back, show orZ 0 al = al from rfl, show orZ 0 be = be from rfl, show orZ 0 K = K from rfl, show orZ 0 sc = sc from rfl, show orZ 0 c = c from rfl] at hMb
  have hMu := fun w' (hU : Up w w') => bliUnblind_any P Q G y r al be K sc s w' hP hQ (HT.out.up hU)
  rw [H.unblind, H.last, show orZ 0 sc = sc from rfl, show orZ 0 ss = ss from rfl] at hMu
  have hMn := fun w' (hU : Up w w') => bliCount_any P Q G y r c s _ m sc ss w' hP hQ (HT.out.up hU) (HS.out.up hU) (HV.out.up hU) HM.out
  rw [H.given] at hMn
  have Mf := hid hMf
  have M1 := hid hM1
  have M2 := hid hM2
  have Mb := hid hMb
  have Mu := hid hMu
  have Mn := hid hMn
  clear hMf hM1 hM2 hMb hMu hMn H hg hc hvs hl
  have e1 : (c != c) = false := by simp
  go_wp2_with fail
  refine (Mf.out _ (HU4.out)).mono ?_
  rintro e w5 ⟨rfl, hU5⟩
  have HA5 := hid (HA4.out.up hU5)
  have HV5 := hid (HV4.out.up hU5)
  have HS5 := hid (HS4.out.up hU5)
  have HU5 := hid (HU4.out.trans hU5)
  clear hU5 HA4 HV4 HS4 HU4 c0 c1 c2 v0 v1 v2 s0 s1
  obtain ⟨c0, c1, c2⟩ := HA5.out
  obtain ⟨v0, v1, v2⟩ := HV5.out
  obtain ⟨s0, s1⟩ := HS5.out
  go_wp2_with fail
  refine (M1.out _).mono ?_
  rintro e w6 ⟨rfl, hU6⟩
  have HA6 := hid (HA5.out.up hU6)
  have HV6 := hid (HV5.out.up hU6)
  have HS6 := hid (HS5.out.up hU6)
  have HU6 := hid (HU5.out.trans hU6)
  clear hU6 HA5 HV5 HS5 HU5 c0 c1 c2 v0 v1 v2 s0 s1
  obtain ⟨c0, c1, c2⟩ := HA6.out
  obtain ⟨v0, v1, v2⟩ := HV6.out
  obtain ⟨s0, s1⟩ := HS6.out
  go_wp2_with fail
  refine (M2.out _).mono ?_
  rintro e w7 ⟨rfl, hU7⟩
  have HA7 := hid (HA6.out.up hU7)
  have HV7 := hid (HV6.out.up hU7)
  have HS7 := hid (HS6.out.up hU7)
  have HU7 := hid (HU6.out.trans hU7)
  clear hU7 HA6 HV6 HS6 HU6 c0 c1 c2 v0 v1 v2 s0 s1
  obtain ⟨c0, c1, c2⟩ := HA7.out
  obtain ⟨v0, v1, v2⟩ := HV7.out
  obtain ⟨s0, s1⟩ := HS7.out
  go_wp2_with fail
  refine (Mb.out _ (HU7.out)).mono ?_
  rintro e w8 ⟨rfl, hU8⟩
  have HA8 := hid (HA7.out.up hU8)
  have HV8 := hid (HV7.out.up hU8)
  have HS8 := hid (HS7.out.up hU8)
  have HU8 := hid (HU7.out.trans hU8)
  clear hU8 HA7 HV7 HS7 HU7 c0 c1 c2 v0 v1 v2 s0 s1
  obtain ⟨c0, c1, c2⟩ := HA8.out
  obtain ⟨v0, v1, v2⟩ := HV8.out
  obtain ⟨s0, s1⟩ := HS8.out
  obtain ⟨ob, hob⟩ : ∃ ob, w8.heap.size = ob := ⟨_, rfl⟩
  have lob : o < ob := by rw [← hob]; exact cell_lt c0
  have lob1 : o1 < ob := by rw [← hob]; exact cell_lt v0
  have lob2 : o2 < ob := by rw [← hob]; exact cell_lt s0
  go_wp2_with fail
  refine (Mu.out _ (HU8.out.alloc _)).mono ?_
  rintro e w9 ⟨rfl, hU9⟩
  have HB9 := hid ((Blk.new (g := ob) (t := 71) (cs := #[.int .i64 al, .int .i64 be, .int .i64 K, .int .i64 sc]) hob rfl).up hU9)
  have hU9 := ((Up.refl w8).alloc _).trans hU9
  have HA9 := hid (HA8.out.up hU9)
  have HV9 := hid (HV8.out.up hU9)
  have HS9 := hid (HS8.out.up hU9)
  have HU9 := hid (HU8.out.trans hU9)
  clear hU9 HA8 HV8 HS8 HU8 c0 c1 c2 v0 v1 v2 s0 s1
  try rw [hob]
  clear hob
  obtain ⟨c0, c1, c2⟩ := HA9.out
  obtain ⟨v0, v1, v2⟩ := HV9.out
  obtain ⟨s0, s1⟩ := HS9.out
  have u0 := HB9.out.val (i := 0) rfl
  have u1 := HB9.out.val (i := 1) rfl
  have u2 := HB9.out.val (i := 2) rfl
  have u3 := HB9.out.val (i := 3) rfl
  obtain ⟨os, hos⟩ : ∃ os, w9.heap.size = os := ⟨_, rfl⟩
  have los : o < os := by rw [← hos]; exact cell_lt c0
  have los1 : o1 < os := by rw [← hos]; exact cell_lt v0
  have los2 : o2 < os := by rw [← hos]; exact cell_lt s0
  go_wp2_with fail
  refine (Mn.out _ (HU9.out.alloc _)).mono ?_
  rintro e w10 ⟨rfl, hU10⟩
  have hU10 := ((Up.refl w9).alloc _).trans hU10
  have HA10 := hid (HA9.out.up hU10)
  have HV10 := hid (HV9.out.up hU10)
  have HS10 := hid (HS9.out.up hU10)
  have HB10 := hid (HB9.out.up hU10)
  have HU10 := hid (HU9.out.trans hU10)
  clear hU10 HA9 HV9 HS9 HB9 HU9 c0 c1 c2 v0 v1 v2 s0 s1 u0 u1 u2 u3
  clear hos
  obtain ⟨c0, c1, c2⟩ := HA10.out
  obtain ⟨v0, v1, v2⟩ := HV10.out
  obtain ⟨s0, s1⟩ := HS10.out
  have u0 := HB10.out.val (i := 0) rfl
  have u1 := HB10.out.val (i := 1) rfl
  have u2 := HB10.out.val (i := 2) rfl
  have u3 := HB10.out.val (i := 3) rfl
  by_cases hq : Q > 113
  · have d1 : decide (Q > 113) = true := by simpa using hq
    have d2 : decide (Q ≤ 113) = false := by simpa using hq
    rw [show cntE 0 Q = 9 by rw [cntE, if_pos rfl, if_pos hq], show orZ 9 1 = 0 from rfl]
    clear hq
    go_wp2
    go_ret
    exact ⟨rfl, HU10.out⟩
  · have d1 : decide (Q > 113) = false := by simpa using hq
    have d2 : decide (Q ≤ 113) = true := by simpa using hq
    rw [show cntE 0 Q = 0 by rw [cntE, if_pos rfl, if_neg hq], show orZ 0 1 = 1 from rfl]
    clear hq
    go_wp2
    go_ret
    exact ⟨rfl, HU10.out⟩
end Go.Proofs.YtdlcmpbpdbpanaaGreatDoor
namespace Go.Proofs.YtdlcmpbpdbpanaaGreatDoor.lawBlindUnlinkable
open Go.Proofs.YtdlcmpbpdbpanaaGreatDoor
theorem fact1 : (Rows.blindUnlinkableRow.wf (OpenSpec.ofChange (OpenSpec.ofChange Rows.blindUnlinkableSpec).bare) : Bool) = true := by kernel_rfl
theorem fact2 : (laidOutB Tryz.pinned.checked.prog : Bool) = true := by kernel_rfl
theorem fact3 : (mapsRowed Tryz.pinned.checked.prog : Bool) = true := by kernel_rfl
theorem fact4 : (Tryz.f13.params.all (Tryz.pinned.checked.prog.readableRec ·) : Bool) = true := by kernel_rfl
theorem fact5 : (namedTie Tryz.pinned.checked.prog Rows.blindUnlinkableRow.named (OpenSpec.ofChange Rows.blindUnlinkableSpec).bare.vars : Bool) = true := by kernel_rfl
theorem fact6 : ((Rows.blindUnlinkableRow.stops == []) : Bool) = true := by kernel_rfl
theorem fact7 : ((Tryz.pinned.checked.prog.stops == []) : Bool) = true := by kernel_rfl
theorem fact8 : ((Rows.blindUnlinkableRow.knobs == []) : Bool) = true := by kernel_rfl
theorem fact9 : ((Tryz.pinned.checked.prog.stopKnobs == []) : Bool) = true := by kernel_rfl
theorem fact10 : ((Rows.blindUnlinkableRow.inPlace == Tryz.pinned.checked.prog.inPlace 13) : Bool) = true := by kernel_rfl
theorem fact11 : ((Rows.blindUnlinkableRow.unfollowed == Tryz.pinned.checked.prog.unfollowed 13) : Bool) = true := by kernel_rfl
theorem fact12 : ((Rows.blindUnlinkableRow.recurses == Tryz.pinned.checked.prog.recurses 13) : Bool) = true := by kernel_rfl
theorem fact13 : ((Rows.blindUnlinkableRow.named == Tryz.pinned.checked.prog.varsNamed 13) : Bool) = true := by kernel_rfl
theorem fact14 : ((Rows.blindUnlinkableRow.maps == (Tryz.f13.params.toList ++ (OpenSpec.ofChange Rows.blindUnlinkableSpec).bare.plain.varTypes Tryz.pinned.checked.prog).any (Tryz.pinned.checked.prog.mapsRec ·)) : Bool) = true := by kernel_rfl
theorem fact15 : ((Rows.blindUnlinkableRow.ifaces == (Tryz.f13.params.toList ++ (OpenSpec.ofChange Rows.blindUnlinkableSpec).bare.plain.varTypes Tryz.pinned.checked.prog).any (Tryz.pinned.checked.prog.ifacesRec ·)) : Bool) = true := by kernel_rfl
theorem fact16 : ((Rows.blindUnlinkableRow.mapsOut == Tryz.pinned.checked.prog.mapsAmong Tryz.f13.resultTypes.toList) : Bool) = true := by kernel_rfl
theorem fact17 : ((Rows.blindUnlinkableRow.loops == (Tryz.f13.params.toList ++ (OpenSpec.ofChange Rows.blindUnlinkableSpec).bare.plain.varTypes Tryz.pinned.checked.prog).any (Tryz.pinned.checked.prog.loopsFrom ·)) : Bool) = true := by kernel_rfl
theorem fact18 : ((Rows.blindUnlinkableRow.wideKeys == (Tryz.f13.params.toList ++ (OpenSpec.ofChange Rows.blindUnlinkableSpec).bare.plain.varTypes Tryz.pinned.checked.prog ++ Tryz.f13.resultTypes.toList).any (Tryz.pinned.checked.prog.wideKeysFrom ·)) : Bool) = true := by kernel_rfl
theorem fact19 : ((OpenSpec.ofChange Rows.blindUnlinkableSpec).bare.vars.all (Tryz.pinned.checked.prog.varReadable ·) : Bool) = true := by kernel_rfl
theorem fact20 : (Tryz.f13.resultTypes.all (fun t => Tryz.pinned.checked.prog.readableRec t && decide (t < Tryz.pinned.checked.prog.types.size)) : Bool) = true := by kernel_rfl
theorem fact21 : ((Rows.blindUnlinkableRow.ifacesOut == Tryz.f13.resultTypes.toList.any (Tryz.pinned.checked.prog.ifacesRec ·)) : Bool) = true := by kernel_rfl
theorem fact22 : ((Rows.blindUnlinkableRow.loopsOut == Tryz.f13.resultTypes.toList.any (Tryz.pinned.checked.prog.loopsFrom ·)) : Bool) = true := by kernel_rfl
theorem fact23 : ((Rows.blindUnlinkableRow.plainKeys == Tryz.pinned.checked.prog.plainKeys) : Bool) = true := by kernel_rfl
theorem fact24 : (Rows.blindUnlinkableRow.shortTexts.isNone : Bool) = true := by kernel_rfl
theorem fact25 : (Tryz.pinned.checked.prog.stopsHeard : Bool) = true := by kernel_rfl
theorem fact26 : (Tryz.pinned.checked.prog.mayEnter : Bool) = true := by kernel_rfl
theorem fact27 : ((Rows.blindUnlinkableRow.lifted == Tryz.pinned.checked.prog.liftsFinal) : Bool) = true := by kernel_rfl
theorem fact28 : ((Tryz.pinned.checked.prog.make == some Rows.blindUnlinkableRow.make) : Bool) = true := by kernel_rfl
theorem fact29 : ((Rows.blindUnlinkableRow.kinds == (if Rows.blindUnlinkableRow.domain.isEmpty then [] else Tryz.f13.params.toList.map fun t => match Tryz.pinned.checked.prog.underlying t with | some (.int k) => some k | _ => none)) : Bool) = true := by kernel_rfl
theorem fact30 : ((Rows.blindUnlinkableRow.pinned == Rows.blindUnlinkableRow.pinnedBy) : Bool) = true := by kernel_rfl
theorem fact31 : ((Rows.blindUnlinkableRow.veiled == (Tryz.f13.params.toList ++ (OpenSpec.ofChange Rows.blindUnlinkableSpec).bare.plain.varTypes Tryz.pinned.checked.prog ++ Tryz.f13.resultTypes.toList).any (Tryz.pinned.checked.prog.veiledRec ·)) : Bool) = true := by kernel_rfl
theorem fact32 : (Rows.blindUnlinkableRow.veiledFits Tryz.pinned.checked.prog Tryz.f13.params.toList (Tryz.f13.params.toList ++ (OpenSpec.ofChange Rows.blindUnlinkableSpec).bare.plain.varTypes Tryz.pinned.checked.prog ++ Tryz.f13.resultTypes.toList) : Bool) = true := by kernel_rfl
theorem andB {a b : Bool} (h : a = true) (k : b = true) : (a && b) = true := by rw [h, k]; rfl
set_option maxRecDepth 100000 in
theorem closed : joinedFacts Tryz.pinned.checked.prog 13 Tryz.f13 (OpenSpec.ofChange Rows.blindUnlinkableSpec).bare Rows.blindUnlinkableRow = true := by
  unfold joinedFacts
  exact (andB (andB (andB (andB (andB (andB (andB (andB (andB (andB (andB (andB (andB (andB (andB (andB (andB (andB (andB (andB (andB (andB (andB (andB (andB (andB (andB (andB (andB (andB (andB fact1 fact2) fact3) fact4) fact5) fact6) fact7) fact8) fact9) fact10) fact11) fact12) fact13) fact14) fact15) fact16) fact17) fact18) fact19) fact20) fact21) fact22) fact23) fact24) fact25) fact26) fact27) fact28) fact29) fact30) fact31) fact32)
end Go.Proofs.YtdlcmpbpdbpanaaGreatDoor.lawBlindUnlinkable
namespace Go.Proofs.YtdlcmpbpdbpanaaGreatDoor.lawBlindUnlinkable
open Go.Proofs.YtdlcmpbpdbpanaaGreatDoor Go.ChangeShapes Go.WideShapes Go.ChangeAt Go.RowKit Go.Sp

set_option maxRecDepth 100000 in
theorem contract (H : Type) (enc : TypeId × Value → H) (W : World) (base : Nat) (args : Array Value) (ds gs : List (DataW H)) (before : List MemPlace)
    (hval : ∀ (j : Nat) t v, Tryz.f13.params[j]? = some t → args[j]? = some v → Value.okWide Tryz.prog W .any base t v)
    (hW : DataW.Whole enc Tryz.prog Tryz.f13.params.toList Rows.blindUnlinkableSpec.vars false W args.toList ds gs before) (hL : laidMetH Tryz.prog Rows.blindUnlinkableRow.laid W) :
    Calls Tryz.prog 13 args W fun e W' => ∃ v, e = .returned v ∧ Rows.blindUnlinkableSpec.post enc Tryz.prog Tryz.f13 false true false false W args v W' := by
  have hT := tab_of_four hL
  have hS := tabS_of_four hL
  have hW' := hW
  obtain ⟨p, q, hA0, hV, rfl, hfz, hnd⟩ := hW
  have hA : DataW.TrodAll enc Tryz.prog W 0 (fun _ => true) true Tryz.f13.params.toList args.toList ds p := hA0
  rw [Tryz.params13] at hA hval
  obtain ⟨v0, vs0, d0, ds0, p0, q0, hargs, rfl, rfl, h0, r0⟩ := trodAll_cons hA
  obtain ⟨v1, vs1, d1, ds1, p1, q1, rfl, rfl, rfl, h1, r1⟩ := trodAll_cons r0
  obtain ⟨v2, vs2, d2, ds2, p2, q2, rfl, rfl, rfl, h2, r2⟩ := trodAll_cons r1
  obtain ⟨v3, vs3, d3, ds3, p3, q3, rfl, rfl, rfl, h3, r3⟩ := trodAll_cons r2
  obtain ⟨v4, vs4, d4, ds4, p4, q4, rfl, rfl, rfl, h4, r4⟩ := trodAll_cons r3
  obtain ⟨rfl, rfl, rfl⟩ := trodAll_nil r4
  obtain rfl : args = #[v0, v1, v2, v3, v4] := by cases args; simp_all
  obtain ⟨rfl, rfl⟩ := trodVars_none hV
  obtain ⟨P0, Q0, G0, rfl, bP0, bQ0, bG0⟩ := open_grp (hval 0 23 v0 rfl rfl) h0
  obtain ⟨x1, rfl, bx1, by1⟩ := open_i64 (hval 1 3 v1 rfl rfl) h1
  obtain ⟨x2a, x2b, x2c, rfl, b2⟩ := open_bview (hval 2 80 v2 rfl rfl) h2
  obtain ⟨xs3, hs3, bs3⟩ := open_bytes (hval 3 51 v3 rfl rfl) h3
  obtain ⟨x4a, x4b, rfl, b4⟩ := open_sig (hval 4 67 v4 rfl rfl) h4
  refine (BlindUnlinkable_walk P0 Q0 G0 x1 x2a x2b x2c v3 xs3 x4a x4b W bP0.1 bQ0.2 hT hS hs3 bs3).mono fun e W' ⟨he, hU⟩ => ?_
  exact ⟨_, he, law_shut Tryz.underlying4 (by kernel_rfl) rfl rfl laidOut (by kernel_rfl) hW' hU⟩

theorem laid_met (os : Os) : laidMet Tryz.prog Rows.blindUnlinkableRow.laid ((World.laidAll Tryz.prog os laidFour).forCall (fun _ _ => 0) ⟨#[], #[.agg #[.int .i64 0, .int .i64 0, .int .i64 0], .int .i64 0, .agg #[.int .i64 0, .int .i64 0, .int .i64 0], .slice none 0 0, .agg #[.int .i64 0, .int .i64 0]], []⟩).memory :=
  laidMet_laidAll _ (by kernel_rfl) (by kernel_rfl)
theorem reads (os : Os) {H : Type} (enc : TypeId × Value → H) : ∃ places, DataW.whole enc Tryz.prog ((World.laidAll Tryz.prog os laidFour).forCall (fun _ _ => 0) ⟨#[], #[.agg #[.int .i64 0, .int .i64 0, .int .i64 0], .int .i64 0, .agg #[.int .i64 0, .int .i64 0, .int .i64 0], .slice none 0 0, .agg #[.int .i64 0, .int .i64 0]], []⟩).memory Tryz.f13.params.toList Rows.blindUnlinkableSpec.vars false (#[.agg #[.int .i64 0, .int .i64 0, .int .i64 0], .int .i64 0, .agg #[.int .i64 0, .int .i64 0, .int .i64 0], .slice none 0 0, .agg #[.int .i64 0, .int .i64 0]] : Array Value).toList 8 = some ([.agg [.lit (.int .i64 0), .lit (.int .i64 0), .lit (.int .i64 0)], .lit (.int .i64 0), .agg [.lit (.int .i64 0), .lit (.int .i64 0), .lit (.int .i64 0)], .nil, .agg [.lit (.int .i64 0), .lit (.int .i64 0)]], [], places) :=
  ⟨[], by kernel_rfl⟩

set_option maxRecDepth 100000 in
theorem lifted (os : Os) (started : os.Started) (H : Type) (enc : TypeId × Value → H) (F : Stop.Interp) :
    ReturnsInHanded {} Tryz.checked os 13 .any ((OpenSpec.ofChange Rows.blindUnlinkableSpec).preRow enc Tryz.prog Tryz.f13 Rows.blindUnlinkableRow.domain false Rows.blindUnlinkableRow.laid) (((OpenSpec.ofChange Rows.blindUnlinkableSpec).at F).post enc Tryz.prog Tryz.f13 false true false false) := by
  obtain ⟨places, hx⟩ := reads os enc
  refine returnsInHanded_of_row (C := Tryz.checked) (s := OpenSpec.ofChange Rows.blindUnlinkableSpec) own started (by kernel_rfl) Tryz.func13
    (witness_row_at (enc := enc) (C := Tryz.checked) false (World.laidAll Tryz.prog os laidFour) #[.agg #[.int .i64 0, .int .i64 0, .int .i64 0], .int .i64 0, .agg #[.int .i64 0, .int .i64 0, .int .i64 0], .slice none 0 0, .agg #[.int .i64 0, .int .i64 0]] (World.laidAll_os _ _ _) (by kernel_rfl) (by kernel_rfl) (by kernel_rfl)
      (OpenSpec.preRow_of_cond 8 hx (by kernel_rfl) (fun k hk => by cases hk) (by kernel_rfl) (laid_met os))) ?_
  intro W base args ds gs before hval hW _ _ _ hL _ _
  exact contract H enc W base args ds gs before hval hW hL

theorem said : Rows.BlindUnlinkableSaid :=
  OpenClaim.holds_of_cond 13 Tryz.f13 rfl rfl rfl rfl rfl rfl rfl ⟨rfl, rfl, rfl, rfl, rfl⟩ rfl rfl rfl rfl rfl (by kernel_rfl) Tryz.func13 closed
    (of_decide_eq_true (by kernel_rfl)) (by unfold Func.isWrapper; first | (rw [if_pos (by decide +kernel)]; kernel_rfl) | (rw [if_neg (by decide +kernel)]; exact ⟨rfl, rfl⟩))
    (fun os started H enc _ F => by rw [OpenClaim.pre_eq_preRow]; exact lifted os started H enc F)

theorem plain (f : FuncId) (fn : Func) (hf : Tryz.pinned.checked.prog.funcNamed "specie/specielaw23.BlindUnlinkable" = some f) (hfn : Tryz.pinned.checked.prog.funcs[f]? = some fn) :
    false = Tryz.pinned.checked.prog.looks [] ∧ ∀ (j : Nat) t, fn.params[j]? = some t → Tryz.pinned.checked.prog.wantsStandIn t = false := by
  obtain rfl : f = 13 := Option.some.inj ((show Tryz.prog.funcNamed "specie/specielaw23.BlindUnlinkable" = some 13 by kernel_rfl).symm.trans hf) |>.symm
  obtain rfl : fn = Tryz.f13 := (Option.some.inj (Tryz.func13.symm.trans hfn)).symm
  refine ⟨by kernel_rfl, fun j t ht => ?_⟩
  have hall : Tryz.f13.params.toList.all (fun t => !Tryz.prog.wantsStandIn t) = true := by kernel_rfl
  have := List.all_eq_true.1 hall t (by rw [← Array.mem_toList_iff.symm]; exact Array.mem_of_getElem? ht)
  exact (by simpa using this : Tryz.prog.wantsStandIn t = false)

/-- The card. -/
theorem card : Rows.BlindUnlinkableCardSaid :=
  Claim7.holds_tied_plain_at .later [] _ _ _ _ said (fun _ h => by cases h) (by kernel_rfl) (fun _ h => by cases h) blindUnlinkable_row_tie rfl ⟨rfl, rfl⟩ (by kernel_rfl) rfl plain (by kernel_rfl)
end Go.Proofs.YtdlcmpbpdbpanaaGreatDoor.lawBlindUnlinkable
