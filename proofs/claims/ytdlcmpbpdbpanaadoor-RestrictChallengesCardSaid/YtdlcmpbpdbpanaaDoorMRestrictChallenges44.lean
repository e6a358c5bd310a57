/- Challenge returns the specified challenge or the specified error: specielaw25.RestrictChallenges returns true. For every input; the tables of packages math/bits, prime and digest as the program's text lays them. RestrictChallenges: the walk. -/
import Derived.Test.YtdlcmpbpdbpanaaDoorMRestrictChallenges42
import Derived.Test.YtdlcmpbpdbpanaaDoorMRestrictChallenges43
import Derived.Test.YtdlcmpbpdbpanaaDoorMRestrictChallenges18
import Derived.Lay
namespace Go.Proofs.YtdlcmpbpdbpanaaDoor
open Go.RowKit Go.Sp
set_option maxHeartbeats 4000000
set_option maxRecDepth 20000

theorem RestrictChallenges_walk (P Q G A B C p : Int) (root : Nat → Int) (z a b r : Int) (w : World) (hP : -9223372036854775808 ≤ P) (hQ : Q ≤ 9223372036854775807) (hT : Tab w) (hS : TabS w) (hR : Byt root) :
    Calls Tryd.prog 6 #[bas P Q G A B C, .int .i64 p, hashV root, sgn z a b r] w fun e w' => e = .returned (.bool true) ∧ Up w w' := by
  have HT := hid hT
  have M1 := hid (fun w' (hU : Up w w') => resChallenge_any P Q G A B C p root z a b r w' hP hQ (hT.up hU) (hS.up hU) hR)
  have M2 := hid (fun w' (h0 : 1 ≤ Q) (h1 : Q < 2305843009213693952) => rChallenge_any P Q G A B C p root z a b r w' h0 h1 hR)
  have HV := hid (fun w' => rbValid_any P Q G A B C w' hP hQ)
  obtain ⟨E, hE⟩ : ∃ E, chlE P Q G A B C p z a b = E := ⟨_, rfl⟩
  obtain ⟨V, hV⟩ : ∃ V, chlV P Q G A B C p root z a b = V := ⟨_, rfl⟩
  have HVv : Hid (V = if E = 0 then coinC P Q G A B C p root z a b else 0) := hid (by rw [← hV, chlV, hE])
  have HE : Hid (E = if bvB P Q G A B C = true then (if [p, z, a, b].all (elB P Q) = true then 0 else 2) else 1) := hid hE.symm
  rw [hE, hV] at M1
  obtain ⟨cs, hcs⟩ : ∃ cs, arrK .u8 root 32 = cs := ⟨_, rfl⟩
  have HCz : Hid ((Tryd.prog.info? 23).map (·.size) = some cs.size) := hid (by rw [← hcs, arrK_size]; kernel_rfl)
  unfold hashV at M1 M2 ⊢
  rw [hcs] at M1 M2 ⊢
  obtain ⟨o, ho⟩ : ∃ o, w.heap.size = o := ⟨_, rfl⟩
  have HO := hid ho
  obtain ⟨o1, ho1⟩ : ∃ o1, o + 1 = o1 := ⟨_, rfl⟩
  have HO1 := hid ho1
  obtain ⟨o2, ho2⟩ : ∃ o2, o1 + 1 = o2 := ⟨_, rfl⟩
  have HO2 := hid ho2
  clear hT hS hR hcs ho ho1 ho2 hE hV
  go_enter Tryd.func6, Tryd.ntmps6
  go_wp2_with fail
  refine (awake25 _ (HT.out.up ((((Up.refl w).alloc _).alloc _).alloc _))).mono ?_
  rintro e w1 ⟨rfl, hU1⟩
  have HA1 := hid (((nums_six (w := w) (t := 54) HO.out).up (((Up.refl _).alloc _).alloc _)).up hU1)
  have HC1 := hid (((Blk.new (g := o1) (t := 23) (by have := HO.out; have := HO1.out; have := HO2.out; simp; omega) rfl).up ((Up.refl _).alloc _)).up hU1)
  have HS1 := hid (((Blk.new (g := o2) (t := 56) (by have := HO.out; have := HO1.out; have := HO2.out; simp; omega) rfl)).up hU1)
  have HU1 := hid (((((Up.refl w).alloc _).alloc _).alloc _).trans hU1)
  clear hU1
  rw [HO.out, HO1.out, HO2.out]
  obtain ⟨⟨c0, c1, c2⟩, c3, c4, c5⟩ := HA1.out
  have s0 := HS1.out.val (i := 0) rfl
  have s1 := HS1.out.val (i := 1) rfl
  have s2 := HS1.out.val (i := 2) rfl
  have s3 := HS1.out.val (i := 3) rfl
  go_wp2_with (refine wpList_load_rowG (by rfl) 23 _ rfl o1 rfl 23 cs (0, 0) _ HC1.out Tryd.underlying23 rfl HCz.out ?_)
  refine (M1.out _ (HU1.out)).mono ?_
  rintro e w2 ⟨rfl, hU2⟩
  have HA2 := hid (HA1.out.up hU2)
  have HC2 := hid (HC1.out.up hU2)
  have HS2 := hid (HS1.out.up hU2)
  have HU2 := hid (HU1.out.trans hU2)
  clear hU2 HA1 HC1 HS1 HU1 c0 c1 c2 c3 c4 c5 s0 s1 s2 s3
  obtain ⟨⟨c0, c1, c2⟩, c3, c4, c5⟩ := HA2.out
  have s0 := HS2.out.val (i := 0) rfl
  have s1 := HS2.out.val (i := 1) rfl
  have s2 := HS2.out.val (i := 2) rfl
  have s3 := HS2.out.val (i := 3) rfl
  go_wp2_with fail
  refine (HV.out _).mono ?_
  rintro e w3 ⟨rfl, hU3⟩
  have HA3 := hid (HA2.out.up hU3)
  have HC3 := hid (HC2.out.up hU3)
  have HS3 := hid (HS2.out.up hU3)
  have HU3 := hid (HU2.out.trans hU3)
  clear hU3 HA2 HC2 HS2 HU2 c0 c1 c2 c3 c4 c5 s0 s1 s2 s3
  obtain ⟨⟨c0, c1, c2⟩, c3, c4, c5⟩ := HA3.out
  have s0 := HS3.out.val (i := 0) rfl
  have s1 := HS3.out.val (i := 1) rfl
  have s2 := HS3.out.val (i := 2) rfl
  have s3 := HS3.out.val (i := 3) rfl
  by_cases hg : bvB P Q G A B C = true
  case neg =>
    have hE : E = 1 := by rw [HE.out, if_neg hg]
    have hV : V = 0 := by rw [HVv.out, hE]; rfl
    have hg' : bvB P Q G A B C = false := by simpa using hg
    subst hE hV
    rw [hg']
    clear hg hg'
    go_wp2
    go_ret
    exact ⟨rfl, HU3.out⟩
  have HE1 : Hid (E = if [p, z, a, b].all (elB P Q) = true then 0 else 2) := hid (by rw [HE.out, if_pos hg])
  have g := gv_iff.1 (bv_iff.1 hg).1
  have g1 := g.P61
  have g3 := g.Q3
  have g4 := g.QP
  rw [hg]
  clear hg g HE
  go_wp2_with fail
  refine (rMember_any P Q G p _ g1 (by omega) hQ).mono ?_
  rintro e w4 ⟨rfl, hU4⟩
  have HA4 := hid (HA3.out.up hU4)
  have HC4 := hid (HC3.out.up hU4)
  have HS4 := hid (HS3.out.up hU4)
  have HU4 := hid (HU3.out.trans hU4)
  clear hU4 HA3 HC3 HS3 HU3 c0 c1 c2 c3 c4 c5 s0 s1 s2 s3
  obtain ⟨⟨c0, c1, c2⟩, c3, c4, c5⟩ := HA4.out
  have s0 := HS4.out.val (i := 0) rfl
  have s1 := HS4.out.val (i := 1) rfl
  have s2 := HS4.out.val (i := 2) rfl
  have s3 := HS4.out.val (i := 3) rfl
  by_cases h0 : elB P Q p = true
  case neg =>
    have h' : elB P Q p = false := by simpa using h0
    have hE : E = 2 := by rw [HE1.out, if_neg (by simp [h'])]
    have hV : V = 0 := by rw [HVv.out, hE]; rfl
    subst hE hV
    rw [h']
    clear h0 h'
    go_wp2
    go_ret
    exact ⟨rfl, HU4.out⟩
  have Y0 := hid h0
  rw [h0]
  clear h0
  go_wp2_with fail
  refine (rMember_any P Q G z _ g1 (by omega) hQ).mono ?_
  rintro e w5 ⟨rfl, hU5⟩
  have HA5 := hid (HA4.out.up hU5)
  have HC5 := hid (HC4.out.up hU5)
  have HS5 := hid (HS4.out.up hU5)
  have HU5 := hid (HU4.out.trans hU5)
  clear hU5 HA4 HC4 HS4 HU4 c0 c1 c2 c3 c4 c5 s0 s1 s2 s3
  obtain ⟨⟨c0, c1, c2⟩, c3, c4, c5⟩ := HA5.out
  have s0 := HS5.out.val (i := 0) rfl
  have s1 := HS5.out.val (i := 1) rfl
  have s2 := HS5.out.val (i := 2) rfl
  have s3 := HS5.out.val (i := 3) rfl
  by_cases h1 : elB P Q z = true
  case neg =>
    have h' : elB P Q z = false := by simpa using h1
    have hE : E = 2 := by rw [HE1.out, if_neg (by simp [h'])]
    have hV : V = 0 := by rw [HVv.out, hE]; rfl
    subst hE hV
    rw [h']
    clear h1 h'
    go_wp2
    go_ret
    exact ⟨rfl, HU5.out⟩
  have Y1 := hid h1
  rw [h1]
  clear h1
  go_wp2_with fail
  refine (rMember_any P Q G a _ g1 (by omega) hQ).mono ?_
  rintro e w6 ⟨rfl, hU6⟩
  have HA6 := hid (HA5.out.up hU6)
  have HC6 := hid (HC5.out.up hU6)
  have HS6 := hid (HS5.out.up hU6)
  have HU6 := hid (HU5.out.trans hU6)
  clear hU6 HA5 HC5 HS5 HU5 c0 c1 c2 c3 c4 c5 s0 s1 s2 s3
  obtain ⟨⟨c0, c1, c2⟩, c3, c4, c5⟩ := HA6.out
  have s0 := HS6.out.val (i := 0) rfl
  have s1 := HS6.out.val (i := 1) rfl
  have s2 := HS6.out.val (i := 2) rfl
  have s3 := HS6.out.val (i := 3) rfl
  by_cases h2 : elB P Q a = true
  case neg =>
    have h' : elB P Q a = false := by simpa using h2
    have hE : E = 2 := by rw [HE1.out, if_neg (by simp [h'])]
    have hV : V = 0 := by rw [HVv.out, hE]; rfl
    subst hE hV
    rw [h']
    clear h2 h'
    go_wp2
    go_ret
    exact ⟨rfl, HU6.out⟩
  have Y2 := hid h2
  rw [h2]
  clear h2
  go_wp2_with fail
  refine (rMember_any P Q G b _ g1 (by omega) hQ).mono ?_
  rintro e w7 ⟨rfl, hU7⟩
  have HA7 := hid (HA6.out.up hU7)
  have HC7 := hid (HC6.out.up hU7)
  have HS7 := hid (HS6.out.up hU7)
  have HU7 := hid (HU6.out.trans hU7)
  clear hU7 HA6 HC6 HS6 HU6 c0 c1 c2 c3 c4 c5 s0 s1 s2 s3
  obtain ⟨⟨c0, c1, c2⟩, c3, c4, c5⟩ := HA7.out
  have s0 := HS7.out.val (i := 0) rfl
  have s1 := HS7.out.val (i := 1) rfl
  have s2 := HS7.out.val (i := 2) rfl
  have s3 := HS7.out.val (i := 3) rfl
  by_cases h3 : elB P Q b = true
  case neg =>
    have h' : elB P Q b = false := by simpa using h3
    have hE : E = 2 := by rw [HE1.out, if_neg (by simp [h'])]
    have hV : V = 0 := by rw [HVv.out, hE]; rfl
    subst hE hV
    rw [h']
    clear h3 h'
    go_wp2
    go_ret
    exact ⟨rfl, HU7.out⟩
  have Y3 := hid h3
  rw [h3]
  clear h3
  have hE : E = 0 := by rw [HE1.out, if_pos (by simp [Y0.out, Y1.out, Y2.out, Y3.out])]
  have hV : V = coinC P Q G A B C p root z a b := by rw [HVv.out, hE]; rfl
  have M3 := hid (fun w' => M2.out w' (by omega) (by omega))
  subst hE
  rw [← hV] at M3
  clear hV HVv HE1 M2
  go_wp2_with (refine wpList_load_rowG (by rfl) 23 _ rfl o1 rfl 23 cs (0, 0) _ HC7.out Tryd.underlying23 rfl HCz.out ?_)
  refine (M3.out _).mono ?_
  rintro e w8 ⟨rfl, hU8⟩
  have HA8 := hid (HA7.out.up hU8)
  have HC8 := hid (HC7.out.up hU8)
  have HS8 := hid (HS7.out.up hU8)
  have HU8 := hid (HU7.out.trans hU8)
  clear hU8 HA7 HC7 HS7 HU7 c0 c1 c2 c3 c4 c5 s0 s1 s2 s3
  go_wp2
  go_ret
  exact ⟨rfl, HU8.out⟩
end Go.Proofs.YtdlcmpbpdbpanaaDoor
namespace Go.Proofs.YtdlcmpbpdbpanaaDoor.lawRestrictChallenges
open Go.Proofs.YtdlcmpbpdbpanaaDoor Go.ChangeShapes Go.WideShapes Go.ChangeAt Go.RowKit Go.Sp

set_option maxRecDepth 100000 in
theorem contract (H : Type) (enc : TypeId × Value → H) (W : World) (base : Nat) (args : Array Value) (ds gs : List (DataW H)) (before : List MemPlace)
    (hval : ∀ (j : Nat) t v, Tryd.f6.params[j]? = some t → args[j]? = some v → Value.okWide Tryd.prog W .any base t v)
    (hW : DataW.Whole enc Tryd.prog Tryd.f6.params.toList Rows.restrictChallengesSpec.vars false W args.toList ds gs before) (hL : laidMetH Tryd.prog Rows.restrictChallengesRow.laid W) :
    Calls Tryd.prog 6 args W fun e W' => ∃ v, e = .returned v ∧ Rows.restrictChallengesSpec.post enc Tryd.prog Tryd.f6 false true false false W args v W' := by
  have hT := tab_of_four hL
  have hS := tabS_of_four hL
  have hW' := hW
  obtain ⟨p, q, hA0, hV, rfl, hfz, hnd⟩ := hW
  have hA : DataW.TrodAll enc Tryd.prog W 0 (fun _ => true) true Tryd.f6.params.toList args.toList ds p := hA0
  rw [Tryd.params6] at hA hval
  obtain ⟨v0, vs0, d0, ds0, p0, q0, hargs, rfl, rfl, h0, r0⟩ := trodAll_cons hA
  obtain ⟨v1, vs1, d1, ds1, p1, q1, rfl, rfl, rfl, h1, r1⟩ := trodAll_cons r0
  obtain ⟨v2, vs2, d2, ds2, p2, q2, rfl, rfl, rfl, h2, r2⟩ := trodAll_cons r1
  obtain ⟨v3, vs3, d3, ds3, p3, q3, rfl, rfl, rfl, h3, r3⟩ := trodAll_cons r2
  obtain ⟨rfl, rfl, rfl⟩ := trodAll_nil r3
  obtain rfl : args = #[v0, v1, v2, v3] := by cases args; simp_all
  obtain ⟨rfl, rfl⟩ := trodVars_none hV
  obtain ⟨P0, Q0, G0, A0, B0, C0, rfl, bP0, bQ0, bG0, bA0, bB0, bC0⟩ := open_bases (hval 0 54 v0 rfl rfl) h0
  obtain ⟨x1, rfl, bx1, by1⟩ := open_i64 (hval 1 3 v1 rfl rfl) h1
  obtain ⟨rt2, rfl, hr2⟩ := open_hash (hval 2 23 v2 rfl rfl) h2
  obtain ⟨x3a, x3b, x3c, x3d, rfl, b3⟩ := open_sign (hval 3 56 v3 rfl rfl) h3
  refine (RestrictChallenges_walk P0 Q0 G0 A0 B0 C0 x1 rt2 x3a x3b x3c x3d W bP0.1 bQ0.2 hT hS hr2).mono fun e W' ⟨he, hU⟩ => ?_
  exact ⟨_, he, law_shut Tryd.underlying4 (by kernel_rfl) rfl rfl laidOut (by kernel_rfl) hW' hU⟩

theorem laid_met (os : Os) : laidMet Tryd.prog Rows.restrictChallengesRow.laid ((World.laidAll Tryd.prog os laidFour).forCall (fun _ _ => 0) ⟨#[], #[.agg #[.int .i64 0, .int .i64 0, .int .i64 0, .int .i64 0, .int .i64 0, .int .i64 0], .int .i64 0, .agg #[.int .u8 0, .int .u8 0, .int .u8 0, .int .u8 0, .int .u8 0, .int .u8 0, .int .u8 0, .int .u8 0, .int .u8 0, .int .u8 0, .int .u8 0, .int .u8 0, .int .u8 0, .int .u8 0, .int .u8 0, .int .u8 0, .int .u8 0, .int .u8 0, .int .u8 0, .int .u8 0, .int .u8 0, .int .u8 0, .int .u8 0, .int .u8 0, .int .u8 0, .int .u8 0, .int .u8 0, .int .u8 0, .int .u8 0, .int .u8 0, .int .u8 0, .int .u8 0], .agg #[.int .i64 0, .int .i64 0, .int .i64 0, .int .i64 0]], []⟩).memory :=
  laidMet_laidAll _ (by kernel_rfl) (by kernel_rfl)
theorem reads (os : Os) {H : Type} (enc : TypeId × Value → H) : ∃ places, DataW.whole enc Tryd.prog ((World.laidAll Tryd.prog os laidFour).forCall (fun _ _ => 0) ⟨#[], #[.agg #[.int .i64 0, .int .i64 0, .int .i64 0, .int .i64 0, .int .i64 0, .int .i64 0], .int .i64 0, .agg #[.int .u8 0, .int .u8 0, .int .u8 0, .int .u8 0, .int .u8 0, .int .u8 0, .int .u8 0, .int .u8 0, .int .u8 0, .int .u8 0, .int .u8 0, .int .u8 0, .int .u8 0, .int .u8 0, .int .u8 0, .int .u8 0, .int .u8 0, .int .u8 0, .int .u8 0, .int .u8 0, .int .u8 0, .int .u8 0, .int .u8 0, .int .u8 0, .int .u8 0, .int .u8 0, .int .u8 0, .int .u8 0, .int .u8 0, .int .u8 0, .int .u8 0, .int .u8 0], .agg #[.int .i64 0, .int .i64 0, .int .i64 0, .int .i64 0]], []⟩).memory Tryd.f6.params.toList Rows.restrictChallengesSpec.vars false (#[.agg #[.int .i64 0, .int .i64 0, .int .i64 0, .int .i64 0, .int .i64 0, .int .i64 0], .int .i64 0, .agg #[.int .u8 0, .int .u8 0, .int .u8 0, .int .u8 0, .int .u8 0, .int .u8 0, .int .u8 0, .int .u8 0, .int .u8 0, .int .u8 0, .int .u8 0, .int .u8 0, .int .u8 0, .int .u8 0, .int .u8 0, .int .u8 0, .int .u8 0, .int .u8 0, .int .u8 0, .int .u8 0, .int .u8 0, .int .u8 0, .int .u8 0, .int .u8 0, .int .u8 0, .int .u8 0, .int .u8 0, .int .u8 0, .int .u8 0, .int .u8 0, .int .u8 0, .int .u8 0], .agg #[.int .i64 0, .int .i64 0, .int .i64 0, .int .i64 0]] : Array Value).toList 8 = some ([.agg [.agg [.lit (.int .i64 0), .lit (.int .i64 0), .lit (.int .i64 0)], .lit (.int .i64 0), .lit (.int .i64 0), .lit (.int .i64 0)], .lit (.int .i64 0), .agg [.lit (.int .u8 0), .lit (.int .u8 0), .lit (.int .u8 0), .lit (.int .u8 0), .lit (.int .u8 0), .lit (.int .u8 0), .lit (.int .u8 0), .lit (.int .u8 0), .lit (.int .u8 0), .lit (.int .u8 0), .lit (.int .u8 0), .lit (.int .u8 0), .lit (.int .u8 0), .lit (.int .u8 0), .lit (.int .u8 0), .lit (.int .u8 0), .lit (.int .u8 0), .lit (.int .u8 0), .lit (.int .u8 0), .lit (.int .u8 0), .lit (.int .u8 0), .lit (.int .u8 0), .lit (.int .u8 0), .lit (.int .u8 0), .lit (.int .u8 0), .lit (.int .u8 0), .lit (.int .u8 0), .lit (.int .u8 0), .lit (.int .u8 0), .lit (.int .u8 0), .lit (.int .u8 0), .lit (.int .u8 0)], .agg [.lit (.int .i64 0), .lit (.int .i64 0), .lit (.int .i64 0), .lit (.int .i64 0)]], [], places) :=
  ⟨[], by kernel_rfl⟩

set_option maxRecDepth 100000 in
theorem lifted (os : Os) (started : os.Started) (H : Type) (enc : TypeId × Value → H) (F : Stop.Interp) :
    ReturnsInHanded {} Tryd.checked os 6 .any ((OpenSpec.ofChange Rows.restrictChallengesSpec).preRow enc Tryd.prog Tryd.f6 Rows.restrictChallengesRow.domain false Rows.restrictChallengesRow.laid) (((OpenSpec.ofChange Rows.restrictChallengesSpec).at F).post enc Tryd.prog Tryd.f6 false true false false) := by
  obtain ⟨places, hx⟩ := reads os enc
  refine returnsInHanded_of_row (C := Tryd.checked) (s := OpenSpec.ofChange Rows.restrictChallengesSpec) own started (by kernel_rfl) Tryd.func6
    (witness_row_at (enc := enc) (C := Tryd.checked) false (World.laidAll Tryd.prog os laidFour) #[.agg #[.int .i64 0, .int .i64 0, .int .i64 0, .int .i64 0, .int .i64 0, .int .i64 0], .int .i64 0, .agg #[.int .u8 0, .int .u8 0, .int .u8 0, .int .u8 0, .int .u8 0, .int .u8 0, .int .u8 0, .int .u8 0, .int .u8 0, .int .u8 0, .int .u8 0, .int .u8 0, .int .u8 0, .int .u8 0, .int .u8 0, .int .u8 0, .int .u8 0, .int .u8 0, .int .u8 0, .int .u8 0, .int .u8 0, .int .u8 0, .int .u8 0, .int .u8 0, .int .u8 0, .int .u8 0, .int .u8 0, .int .u8 0, .int .u8 0, .int .u8 0, .int .u8 0, .int .u8 0], .agg #[.int .i64 0, .int .i64 0, .int .i64 0, .int .i64 0]] (World.laidAll_os _ _ _) (by kernel_rfl) (by kernel_rfl) (by kernel_rfl)
      (OpenSpec.preRow_of_cond 8 hx (by kernel_rfl) (fun k hk => by cases hk) (by kernel_rfl) (laid_met os))) ?_
  intro W base args ds gs before hval hW _ _ _ hL _ _
  exact contract H enc W base args ds gs before hval hW hL

theorem said : Rows.RestrictChallengesSaid :=
  OpenClaim.holds_of_cond 6 Tryd.f6 rfl rfl rfl rfl rfl rfl rfl ⟨rfl, rfl, rfl, rfl, rfl⟩ rfl rfl rfl rfl rfl (by kernel_rfl) Tryd.func6 (by kernel_rfl)
    (of_decide_eq_true (by kernel_rfl)) (by unfold Func.isWrapper; first | (rw [if_pos (by decide +kernel)]; kernel_rfl) | (rw [if_neg (by decide +kernel)]; exact ⟨rfl, rfl⟩))
    (fun os started H enc _ F => by rw [OpenClaim.pre_eq_preRow]; exact lifted os started H enc F)

theorem plain (f : FuncId) (fn : Func) (hf : Tryd.pinned.checked.prog.funcNamed "specie/specielaw25.RestrictChallenges" = some f) (hfn : Tryd.pinned.checked.prog.funcs[f]? = some fn) :
    false = Tryd.pinned.checked.prog.looks [] ∧ ∀ (j : Nat) t, fn.params[j]? = some t → Tryd.pinned.checked.prog.wantsStandIn t = false := by
  obtain rfl : f = 6 := Option.some.inj ((show Tryd.prog.funcNamed "specie/specielaw25.RestrictChallenges" = some 6 by kernel_rfl).symm.trans hf) |>.symm
  obtain rfl : fn = Tryd.f6 := (Option.some.inj (Tryd.func6.symm.trans hfn)).symm
  refine ⟨by kernel_rfl, fun j t ht => ?_⟩
  have hall : Tryd.f6.params.toList.all (fun t => !Tryd.prog.wantsStandIn t) = true := by kernel_rfl
  have := List.all_eq_true.1 hall t (by rw [← Array.mem_toList_iff.symm]; exact Array.mem_of_getElem? ht)
  exact (by simpa using this : Tryd.prog.wantsStandIn t = false)

/-- The card. -/
theorem card : Rows.RestrictChallengesCardSaid :=
  Claim7.holds_tied_plain_at .later [] _ _ _ _ said (fun _ h => by cases h) (by kernel_rfl) (fun _ h => by cases h) restrictChallenges_row_tie rfl ⟨rfl, rfl⟩ (by kernel_rfl) rfl plain (by kernel_rfl)
end Go.Proofs.YtdlcmpbpdbpanaaDoor.lawRestrictChallenges
