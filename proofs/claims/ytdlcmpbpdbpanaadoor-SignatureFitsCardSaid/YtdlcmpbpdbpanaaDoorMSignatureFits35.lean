/- A signature is verified exactly if its challenge is that of the commitment that fits: specielaw22.SignatureFits returns true. For every input; the tables of packages math/bits, prime and digest as the program's text lays them. SignatureFits: the walk. The examples of layer 22. -/
import Derived.Test.YtdlcmpbpdbpanaaDoorMSignatureFits34
import Derived.Test.YtdlcmpbpdbpanaaDoorMSignatureFits21
import Derived.Test.YtdlcmpbpdbpanaaDoorMSignatureFits13
import Derived.Lay
namespace Go.Proofs.YtdlcmpbpdbpanaaDoor
open Go.RowKit Go.Sp
set_option maxHeartbeats 4000000
set_option maxRecDepth 20000

theorem small22 (w : World) : Calls Tryd.prog 86 #[] w fun e w' => e = .returned (grp 23 11 4) ∧ Up w w' := by
  go_enter Tryd.func86, Tryd.ntmps86
  go_wp2
  go_returns
  exact ⟨rfl, ((Up.refl w).alloc _)⟩

theorem awake22 (w : World) (hT : Tab w) : Calls Tryd.prog 32 #[] w fun e w' => e = .returned (.bool true) ∧ Up w w' := by
  have M1 := hid (fun w' (hU : Up w w') => sigKey_any 23 11 4 3 w' (by omega) (by omega) (hT.up hU))
  rw [show errE (gvB 23 11 4) (exB 11 3) = 0 by decide +kernel, show pwi 23 4 3 = 18 by decide +kernel, show orZ 0 18 = 18 from rfl] at M1
  have M2 := hid (fun w' (hU : Up w w') => sigForge_any 23 11 4 18 2 0 w' (by omega) (by omega) (hT.up hU))
  rw [show frgE 23 11 4 18 2 0 = 0 by decide +kernel, show frgV 23 11 4 18 2 0 = 12 by decide +kernel, show orZ 0 12 = 12 from rfl] at M2
  clear hT
  go_enter Tryd.func32, Tryd.ntmps32
  go_wp2_with fail
  refine (small22 _).mono ?_
  rintro e w1 ⟨rfl, hU1⟩
  have HU1 := hid ((Up.refl w).trans hU1)
  clear hU1
  go_wp2_with fail
  refine (M1.out _ (HU1.out)).mono ?_
  rintro e w2 ⟨rfl, hU2⟩
  have HU2 := hid (HU1.out.trans hU2)
  clear hU2 HU1
  go_wp2_with fail
  refine (small22 _).mono ?_
  rintro e w3 ⟨rfl, hU3⟩
  have HU3 := hid (HU2.out.trans hU3)
  clear hU3 HU2
  go_wp2_with fail
  refine (M2.out _ (HU3.out)).mono ?_
  rintro e w4 ⟨rfl, hU4⟩
  have HU4 := hid (HU3.out.trans hU4)
  clear hU4 HU3
  go_wp2
  go_ret
  exact ⟨rfl, HU4.out⟩
end Go.Proofs.YtdlcmpbpdbpanaaDoor
namespace Go.Proofs.YtdlcmpbpdbpanaaDoor
open Go.RowKit Go.Sp
set_option maxHeartbeats 4000000
set_option maxRecDepth 20000

theorem SignatureFits_walk (P Q G y c s : Int) (v : Value) (m : List Int) (w : World) (hP : -9223372036854775808 ≤ P) (hQ : Q ≤ 9223372036854775807) (hT : Tab w) (hS : TabS w) (hv : SeqAt .u8 w v m) (hm : ∀ x ∈ m, 0 ≤ x ∧ x ≤ 255) :
    Calls Tryd.prog 7 #[grp P Q G, .int .i64 y, v, .agg #[.int .i64 c, .int .i64 s]] w fun e w' => e = .returned (.bool true) ∧ Up w w' := by
  have HT := hid hT
  have M1 := hid (fun w' (hU : Up w w') => sigVerify_any P Q G y c s v m w' hP hQ (hT.up hU) (hS.up hU) (hv.up hU) hm)
  have M2 := hid (fun w' (hU : Up w w') => sigForge_any P Q G y c s w' hP hQ (hT.up hU))
  have M3 := hid (fun w' (hU : Up w w') (r : Int) => sigChallenge_any P Q G r y v m w' hP hQ (hT.up hU) (hS.up hU) (hv.up hU) hm)
  have M4 := hid (fun w' (hU : Up w w') (x : Int) => Contains_any P Q G x w' hP hQ (hT.up hU))
  have HE0 := hid (fun h : frgE P Q G y c s = 0 => frgE_sig (n := m.length) h)
  have HC0 := hid (fun h : frgE P Q G y c s = 0 => (show conB P Q G (frgV P Q G y c s) = true from by rw [conB, (frgE_ok h).1, frgV_el (frgE_ok h).1 (frgE_ok h).2.1]; rfl))
  have HB : Hid (verS P Q G y m c s = (decide (frgE P Q G y c s = 0) && (decide (m.length ≤ 16384) && decide (sigC P Q G (frgV P Q G y c s) y m = c)))) := hid rfl
  generalize verS P Q G y m c s = T at *
  generalize frgV P Q G y c s = V at *
  generalize frgE P Q G y c s = E at *
  replace M3 := hid (fun w' hU => M3.out w' hU V)
  replace M4 := hid (fun w' hU => M4.out w' hU V)
  generalize sigC P Q G V y m = D at *
  generalize conB P Q G V = K at *
  generalize sigE P Q G V y m.length = F at *
  obtain ⟨va, vc, rfl, _, _⟩ := hv.shape
  obtain ⟨n, hn⟩ : ∃ n, m.length = n := ⟨_, rfl⟩
  rw [hn] at M1 M3 HB HE0 ⊢
  obtain ⟨o, ho⟩ : ∃ o, w.heap.size = o := ⟨_, rfl⟩
  have HO := hid ho
  obtain ⟨o1, ho1⟩ : ∃ o1, o + 1 = o1 := ⟨_, rfl⟩
  have HO1 := hid ho1
  clear hT hS hv hm hn ho ho1
  by_cases hl : n > 500
  · have dl : decide ((n : Int) > 500) = true := by simp; omega
    clear hl
    go_enter Tryd.func7, Tryd.ntmps7
    go_wp2_with fail
    refine (awake22 _ (HT.out.up (((Up.refl w).alloc _).alloc _))).mono ?_
    rintro e w1 ⟨rfl, hU1⟩
    have HA1 := hid (((nums_three (w := w) (t := 52) HO.out).up ((Up.refl _).alloc _)).up hU1)
    have HS1 := hid (((nums_two (r := o1) (t := 64) (x := c) (y := s) (by have := HO.out; have := HO1.out; simp; omega))).up hU1)
    have HU1 := hid ((((Up.refl w).alloc _).alloc _).trans hU1)
    clear hU1
    rw [HO.out, HO1.out]
    obtain ⟨c0, c1, c2⟩ := HA1.out
    obtain ⟨s0, s1⟩ := HS1.out
    go_wp2
    go_ret
    exact ⟨rfl, HU1.out⟩
  have dl : decide ((n : Int) > 500) = false := by simp; omega
  go_enter Tryd.func7, Tryd.ntmps7
  go_wp2_with fail
  refine (awake22 _ (HT.out.up (((Up.refl w).alloc _).alloc _))).mono ?_
  rintro e w1 ⟨rfl, hU1⟩
  have HA1 := hid (((nums_three (w := w) (t := 52) HO.out).up ((Up.refl _).alloc _)).up hU1)
  have HS1 := hid (((nums_two (r := o1) (t := 64) (x := c) (y := s) (by have := HO.out; have := HO1.out; simp; omega))).up hU1)
  have HU1 := hid ((((Up.refl w).alloc _).alloc _).trans hU1)
  clear hU1
  rw [HO.out, HO1.out]
  obtain ⟨c0, c1, c2⟩ := HA1.out
  obtain ⟨s0, s1⟩ := HS1.out
  go_wp2_with fail
  refine (M1.out _ (HU1.out)).mono ?_
  rintro e w2 ⟨rfl, hU2⟩
  have HA2 := hid (HA1.out.up hU2)
  have HS2 := hid (HS1.out.up hU2)
  have HU2 := hid (HU1.out.trans hU2)
  clear hU2 HA1 HS1 HU1 c0 c1 c2 s0 s1
  obtain ⟨c0, c1, c2⟩ := HA2.out
  obtain ⟨s0, s1⟩ := HS2.out
  go_wp2_with fail
  refine (M2.out _ (HU2.out)).mono ?_
  rintro e w3 ⟨rfl, hU3⟩
  have HA3 := hid (HA2.out.up hU3)
  have HS3 := hid (HS2.out.up hU3)
  have HU3 := hid (HU2.out.trans hU3)
  clear hU3 HA2 HS2 HU2 c0 c1 c2 s0 s1
  obtain ⟨c0, c1, c2⟩ := HA3.out
  obtain ⟨s0, s1⟩ := HS3.out
  by_cases hE : E = 0
  case neg =>
    have d : (E != 0) = true := by simpa using hE
    have hT' : T = false := by rw [HB.out, show decide (E = 0) = false by simpa using hE]; rfl
    subst hT'
    rw [show orZ E V = 0 by rw [orZ, if_neg hE]]
    clear hE hl
    go_wp2
    go_ret
    exact ⟨rfl, HU3.out⟩
  have hF : F = 0 := by rw [HE0.out hE, if_pos (by omega)]
  have hK := HC0.out hE
  have HB2 : Hid (T = decide (D = c)) := hid (by rw [HB.out, show decide (n ≤ 16384) = true by simp; omega]; simp [hE])
  subst hE hF hK
  clear HB HE0 HC0 hl
  rw [show orZ 0 V = V from rfl]
  rw [show orZ 0 D = D from rfl] at M3
  go_wp2_with fail
  refine (M3.out _ (HU3.out)).mono ?_
  rintro e w4 ⟨rfl, hU4⟩
  have HA4 := hid (HA3.out.up hU4)
  have HS4 := hid (HS3.out.up hU4)
  have HU4 := hid (HU3.out.trans hU4)
  clear hU4 HA3 HS3 HU3 c0 c1 c2 s0 s1
  obtain ⟨c0, c1, c2⟩ := HA4.out
  obtain ⟨s0, s1⟩ := HS4.out
  go_wp2_with fail
  refine (M4.out _ (HU4.out)).mono ?_
  rintro e w5 ⟨rfl, hU5⟩
  have HA5 := hid (HA4.out.up hU5)
  have HS5 := hid (HS4.out.up hU5)
  have HU5 := hid (HU4.out.trans hU5)
  clear hU5 HA4 HS4 HU4 c0 c1 c2 s0 s1
  obtain ⟨c0, c1, c2⟩ := HA5.out
  obtain ⟨s0, s1⟩ := HS5.out
  by_cases hd : D = c
  · have hX : T = true := by rw [HB2.out]; simpa using hd
    subst hX
    have d : (D == c) = true := by simpa using hd
    clear hd HB2
    go_wp2
    go_ret
    exact ⟨rfl, HU5.out⟩
  · have hX : T = false := by rw [HB2.out]; simpa using hd
    subst hX
    have d : (D == c) = false := by simpa using hd
    clear hd HB2
    go_wp2
    go_ret
    exact ⟨rfl, HU5.out⟩
end Go.Proofs.YtdlcmpbpdbpanaaDoor
namespace Go.Proofs.YtdlcmpbpdbpanaaDoor.lawSignatureFits
open Go.Proofs.YtdlcmpbpdbpanaaDoor Go.ChangeShapes Go.WideShapes Go.ChangeAt Go.RowKit Go.Sp

set_option maxRecDepth 100000 in
theorem contract (H : Type) (enc : TypeId × Value → H) (W : World) (base : Nat) (args : Array Value) (ds gs : List (DataW H)) (before : List MemPlace)
    (hval : ∀ (j : Nat) t v, Tryd.f7.params[j]? = some t → args[j]? = some v → Value.okWide Tryd.prog W .any base t v)
    (hW : DataW.Whole enc Tryd.prog Tryd.f7.params.toList Rows.signatureFitsSpec.vars false W args.toList ds gs before) (hL : laidMetH Tryd.prog Rows.signatureFitsRow.laid W) :
    Calls Tryd.prog 7 args W fun e W' => ∃ v, e = .returned v ∧ Rows.signatureFitsSpec.post enc Tryd.prog Tryd.f7 false true false false W args v W' := by
  have hT := tab_of_four hL
  have hS := tabS_of_four hL
  have hW' := hW
  obtain ⟨p, q, hA0, hV, rfl, hfz, hnd⟩ := hW
  have hA : DataW.TrodAll enc Tryd.prog W 0 (fun _ => true) true Tryd.f7.params.toList args.toList ds p := hA0
  rw [Tryd.params7] at hA hval
  obtain ⟨v0, vs0, d0, ds0, p0, q0, hargs, rfl, rfl, h0, r0⟩ := trodAll_cons hA
  obtain ⟨v1, vs1, d1, ds1, p1, q1, rfl, rfl, rfl, h1, r1⟩ := trodAll_cons r0
  obtain ⟨v2, vs2, d2, ds2, p2, q2, rfl, rfl, rfl, h2, r2⟩ := trodAll_cons r1
  obtain ⟨v3, vs3, d3, ds3, p3, q3, rfl, rfl, rfl, h3, r3⟩ := trodAll_cons r2
  obtain ⟨rfl, rfl, rfl⟩ := trodAll_nil r3
  obtain rfl : args = #[v0, v1, v2, v3] := by cases args; simp_all
  obtain ⟨rfl, rfl⟩ := trodVars_none hV
  obtain ⟨P0, Q0, G0, rfl, bP0, bQ0, bG0⟩ := open_grp (hval 0 52 v0 rfl rfl) h0
  obtain ⟨x1, rfl, bx1, by1⟩ := open_i64 (hval 1 3 v1 rfl rfl) h1
  obtain ⟨xs2, hs2, bs2⟩ := open_bytes (hval 2 31 v2 rfl rfl) h2
  obtain ⟨x3a, x3b, rfl, b3⟩ := open_sig (hval 3 64 v3 rfl rfl) h3
  refine (SignatureFits_walk P0 Q0 G0 x1 x3a x3b v2 xs2 W bP0.1 bQ0.2 hT hS hs2 bs2).mono fun e W' ⟨he, hU⟩ => ?_
  exact ⟨_, he, law_shut Tryd.underlying4 (by kernel_rfl) rfl rfl laidOut (by kernel_rfl) hW' hU⟩

theorem laid_met (os : Os) : laidMet Tryd.prog Rows.signatureFitsRow.laid ((World.laidAll Tryd.prog os laidFour).forCall (fun _ _ => 0) ⟨#[], #[.agg #[.int .i64 0, .int .i64 0, .int .i64 0], .int .i64 0, .slice none 0 0, .agg #[.int .i64 0, .int .i64 0]], []⟩).memory :=
  laidMet_laidAll _ (by kernel_rfl) (by kernel_rfl)
theorem reads (os : Os) {H : Type} (enc : TypeId × Value → H) : ∃ places, DataW.whole enc Tryd.prog ((World.laidAll Tryd.prog os laidFour).forCall (fun _ _ => 0) ⟨#[], #[.agg #[.int .i64 0, .int .i64 0, .int .i64 0], .int .i64 0, .slice none 0 0, .agg #[.int .i64 0, .int .i64 0]], []⟩).memory Tryd.f7.params.toList Rows.signatureFitsSpec.vars false (#[.agg #[.int .i64 0, .int .i64 0, .int .i64 0], .int .i64 0, .slice none 0 0, .agg #[.int .i64 0, .int .i64 0]] : Array Value).toList 8 = some ([.agg [.lit (.int .i64 0), .lit (.int .i64 0), .lit (.int .i64 0)], .lit (.int .i64 0), .nil, .agg [.lit (.int .i64 0), .lit (.int .i64 0)]], [], places) :=
  ⟨[], by kernel_rfl⟩

set_option maxRecDepth 100000 in
theorem lifted (os : Os) (started : os.Started) (H : Type) (enc : TypeId × Value → H) (F : Stop.Interp) :
    ReturnsInHanded {} Tryd.checked os 7 .any ((OpenSpec.ofChange Rows.signatureFitsSpec).preRow enc Tryd.prog Tryd.f7 Rows.signatureFitsRow.domain false Rows.signatureFitsRow.laid) (((OpenSpec.ofChange Rows.signatureFitsSpec).at F).post enc Tryd.prog Tryd.f7 false true false false) := by
  obtain ⟨places, hx⟩ := reads os enc
  refine returnsInHanded_of_row (C := Tryd.checked) (s := OpenSpec.ofChange Rows.signatureFitsSpec) own started (by kernel_rfl) Tryd.func7
    (witness_row_at (enc := enc) (C := Tryd.checked) false (World.laidAll Tryd.prog os laidFour) #[.agg #[.int .i64 0, .int .i64 0, .int .i64 0], .int .i64 0, .slice none 0 0, .agg #[.int .i64 0, .int .i64 0]] (World.laidAll_os _ _ _) (by kernel_rfl) (by kernel_rfl) (by kernel_rfl)
      (OpenSpec.preRow_of_cond 8 hx (by kernel_rfl) (fun k hk => by cases hk) (by kernel_rfl) (laid_met os))) ?_
  intro W base args ds gs before hval hW _ _ _ hL _ _
  exact contract H enc W base args ds gs before hval hW hL

theorem said : Rows.SignatureFitsSaid :=
  OpenClaim.holds_of_cond 7 Tryd.f7 rfl rfl rfl rfl rfl rfl rfl ⟨rfl, rfl, rfl, rfl, rfl⟩ rfl rfl rfl rfl rfl (by kernel_rfl) Tryd.func7 (by kernel_rfl)
    (of_decide_eq_true (by kernel_rfl)) (by unfold Func.isWrapper; first | (rw [if_pos (by decide +kernel)]; kernel_rfl) | (rw [if_neg (by decide +kernel)]; exact ⟨rfl, rfl⟩))
    (fun os started H enc _ F => by rw [OpenClaim.pre_eq_preRow]; exact lifted os started H enc F)

theorem plain (f : FuncId) (fn : Func) (hf : Tryd.pinned.checked.prog.funcNamed "specie/specielaw22.SignatureFits" = some f) (hfn : Tryd.pinned.checked.prog.funcs[f]? = some fn) :
    false = Tryd.pinned.checked.prog.looks [] ∧ ∀ (j : Nat) t, fn.params[j]? = some t → Tryd.pinned.checked.prog.wantsStandIn t = false := by
  obtain rfl : f = 7 := Option.some.inj ((show Tryd.prog.funcNamed "specie/specielaw22.SignatureFits" = some 7 by kernel_rfl).symm.trans hf) |>.symm
  obtain rfl : fn = Tryd.f7 := (Option.some.inj (Tryd.func7.symm.trans hfn)).symm
  refine ⟨by kernel_rfl, fun j t ht => ?_⟩
  have hall : Tryd.f7.params.toList.all (fun t => !Tryd.prog.wantsStandIn t) = true := by kernel_rfl
  have := List.all_eq_true.1 hall t (by rw [← Array.mem_toList_iff.symm]; exact Array.mem_of_getElem? ht)
  exact (by simpa using this : Tryd.prog.wantsStandIn t = false)

/-- The card. -/
theorem card : Rows.SignatureFitsCardSaid :=
  Claim7.holds_tied_plain_at .later [] _ _ _ _ said (fun _ h => by cases h) (by kernel_rfl) (fun _ h => by cases h) signatureFits_row_tie rfl ⟨rfl, rfl⟩ (by kernel_rfl) rfl plain (by kernel_rfl)
end Go.Proofs.YtdlcmpbpdbpanaaDoor.lawSignatureFits
