/- RestrictViews: the walk. The closed facts of the row of specielaw25.RestrictViews, one by one: all at once they outgrow the memory. -/
import Derived.Test.YtdlcmpbpdbpanaaGreatDoorMRestrictViews43
import Derived.Test.YtdlcmpbpdbpanaaGreatDoorMRestrictViews44
import Derived.Test.YtdlcmpbpdbpanaaGreatDoorRows
import Derived.JoinedCond
import Derived.KernelRfl
namespace Go.Proofs.YtdlcmpbpdbpanaaGreatDoor
open Go.RowKit Go.Sp
set_option maxHeartbeats 4000000
set_option maxRecDepth 20000

theorem RestrictViews_walk (P Q G A B C k1 k2 k3 m z x y c r p : Int) (root : Nat → Int) (sz sa sb sr : Int) (w : World) (hP : -9223372036854775808 ≤ P) (hQ : Q ≤ 9223372036854775807) (hT : Tab w) (hS : TabS w) (hR : Byt root) :
    Calls Tryz.prog 3 #[bas P Q G A B C, bkey k1 k2 k3, vw m z x y c r, .int .i64 p, hashV root, sgn sz sa sb sr] w fun e w' => e = .returned (.bool true) ∧ Up w w' := by
  have HT := hid hT
  have M1 := hid (fun w' (hU : Up w w') => resCheckView_any P Q G A B C k1 k2 k3 m z x y c r w' hP hQ (hT.up hU))
  have M2 := hid (fun w' (_ : Up w w') => r25CheckView_any P Q G A B C k1 k2 k3 m z x y c r w' hP hQ)
  have M3 := hid (fun w' (hU : Up w w') => resVerify_any P Q G A B C k1 k2 k3 p root sz sa sb sr w' hP hQ (hT.up hU) (hS.up hU) hR)
  have M4 := hid (fun w' (_ : Up w w') => r25Verify_any P Q G A B C k1 k2 k3 p root sz sa sb sr w' hP hQ hR)
  generalize cvB P Q G A B C k1 k2 k3 m z x y c r = T at *
  generalize verB P Q G A B C k1 k2 k3 p root sz sa sb sr = V at *
  have e1 : (T == T) = true := by simp
  have e2 : (V == V) = true := by simp
  obtain ⟨cs, hcs⟩ : ∃ cs, arrK .u8 root 32 = cs := ⟨_, rfl⟩
  have HCz : Hid ((Tryz.prog.info? 31).map (·.size) = some cs.size) := hid (by rw [← hcs, arrK_size]; kernel_rfl)
  unfold hashV at M3 M4 ⊢
  rw [hcs] at M3 M4 ⊢
  obtain ⟨o, ho⟩ : ∃ o, w.heap.size = o := ⟨_, rfl⟩
  have HO := hid ho
  obtain ⟨o1, ho1⟩ : ∃ o1, o + 1 = o1 := ⟨_, rfl⟩
  have HO1 := hid ho1
  obtain ⟨o2, ho2⟩ : ∃ o2, o1 + 1 = o2 := ⟨_, rfl⟩
  have HO2 := hid ho2
  obtain ⟨o3, ho3⟩ : ∃ o3, o2 + 1 = o3 := ⟨_, rfl⟩
  have HO3 := hid ho3
  obtain ⟨o4, ho4⟩ : ∃ o4, o3 + 1 = o4 := ⟨_, rfl⟩
  have HO4 := hid ho4
  clear hT hS hR hcs ho ho1 ho2 ho3 ho4
  go_enter Tryz.func3, Tryz.ntmps3
  go_wp2_with fail
  refine (awake25 _ (HT.out.up ((((((Up.refl w).alloc _).alloc _).alloc _).alloc _).alloc _))).mono ?_
  rintro e w1 ⟨rfl, hU1⟩
  have HA1 := hid (((nums_six (w := w) (t := 25) HO.out).up (((((Up.refl _).alloc _).alloc _).alloc _).alloc _)).up hU1)
  have HY1 := hid (((nums_three (r := o1) (t := 27) (by have := HO.out; have := HO1.out; have := HO2.out; have := HO3.out; have := HO4.out; simp; omega)).up ((((Up.refl _).alloc _).alloc _).alloc _)).up hU1)
  have HV1 := hid (((nums_six (r := o2) (t := 29) (by have := HO.out; have := HO1.out; have := HO2.out; have := HO3.out; have := HO4.out; simp; omega)).up (((Up.refl _).alloc _).alloc _)).up hU1)
  have HC1 := hid (((Blk.new (g := o3) (t := 31) (by have := HO.out; have := HO1.out; have := HO2.out; have := HO3.out; have := HO4.out; simp; omega) rfl).up ((Up.refl _).alloc _)).up hU1)
  have HS1 := hid (((Blk.new (g := o4) (t := 33) (by have := HO.out; have := HO1.out; have := HO2.out; have := HO3.out; have := HO4.out; simp; omega) rfl)).up hU1)
  have HU1 := hid (((((((Up.refl w).alloc _).alloc _).alloc _).alloc _).alloc _).trans hU1)
  clear hU1
  rw [HO.out, HO1.out, HO2.out, HO3.out, HO4.out]
  obtain ⟨⟨c0, c1, c2⟩, c3, c4, c5⟩ := HA1.out
  obtain ⟨e0, e1, e2⟩ := HY1.out
  obtain ⟨⟨b0, b1, b2⟩, b3, b4, b5⟩ := HV1.out
  have s0 := HS1.out.val (i := 0) rfl
  have s1 := HS1.out.val (i := 1) rfl
  have s2 := HS1.out.val (i := 2) rfl
  have s3 := HS1.out.val (i := 3) rfl
  have fc0 := cellF c0
  have fc1 := cellF c1
  have fc2 := cellF c2
  have fc3 := cellF c3
  have fc4 := cellF c4
  have fc5 := cellF c5
  have fe0 := cellF e0
  have fe1 := cellF e1
  have fe2 := cellF e2
  have fb0 := cellF b0
  have fb1 := cellF b1
  have fb2 := cellF b2
  have fb3 := cellF b3
  have fb4 := cellF b4
  have fb5 := cellF b5
  have fs0 := cellF s0
  have fs1 := cellF s1
  have fs2 := cellF s2
  have fs3 := cellF s3
  clear c0 c1 c2 c3 c4 c5 e0 e1 e2 b0 b1 b2 b3 b4 b5 s0 s1 s2 s3
  go_wp2_with fail
  refine wp_region_up (by kernel_rfl) (by kernel_rfl) ?_
  repeat (first
    | (go_big_quiet_want; (refine quiet_load_row 31 _ (by rfl) o3 (by rfl) 31 cs _ HC1.out.from Tryz.underlying31 rfl HCz.out ?_); simp only [Act.put, List.setIfInBounds_toArray, List.set_cons_zero, List.set_cons_succ]; go_big_quiet_on)
    | go_big_quiet_step ((first
    | (go_at_call 16; exact Calls.up_of (M1.out _ (HU1.out.trans (UpFrom.up _))))
    | (go_at_call 17; exact Calls.up_of (M2.out _ (HU1.out.trans (UpFrom.up _))))
    | (go_at_call 18; exact Calls.up_of (M3.out _ (HU1.out.trans (UpFrom.up _))))
    | (go_at_call 19; exact Calls.up_of (M4.out _ (HU1.out.trans (UpFrom.up _)))))))
  refine wpQuiet_nil ?_
  rintro _ ⟨p', rfl⟩
  go_wp2
  go_ret
  exact ⟨rfl, HU1.out.trans p'.up⟩
end Go.Proofs.YtdlcmpbpdbpanaaGreatDoor
namespace Go.Proofs.YtdlcmpbpdbpanaaGreatDoor.lawRestrictViews
open Go.Proofs.YtdlcmpbpdbpanaaGreatDoor
theorem fact1 : (Rows.restrictViewsRow.wf (OpenSpec.ofChange (OpenSpec.ofChange Rows.restrictViewsSpec).bare) : Bool) = true := by kernel_rfl
theorem fact2 : (laidOutB Tryz.pinned.checked.prog : Bool) = true := by kernel_rfl
theorem fact3 : (mapsRowed Tryz.pinned.checked.prog : Bool) = true := by kernel_rfl
theorem fact4 : (Tryz.f3.params.all (Tryz.pinned.checked.prog.readableRec ·) : Bool) = true := by kernel_rfl
theorem fact5 : (namedTie Tryz.pinned.checked.prog Rows.restrictViewsRow.named (OpenSpec.ofChange Rows.restrictViewsSpec).bare.vars : Bool) = true := by kernel_rfl
theorem fact6 : ((Rows.restrictViewsRow.stops == []) : Bool) = true := by kernel_rfl
theorem fact7 : ((Tryz.pinned.checked.prog.stops == []) : Bool) = true := by kernel_rfl
theorem fact8 : ((Rows.restrictViewsRow.knobs == []) : Bool) = true := by kernel_rfl
theorem fact9 : ((Tryz.pinned.checked.prog.stopKnobs == []) : Bool) = true := by kernel_rfl
theorem fact10 : ((Rows.restrictViewsRow.inPlace == Tryz.pinned.checked.prog.inPlace 3) : Bool) = true := by kernel_rfl
theorem fact11 : ((Rows.restrictViewsRow.unfollowed == Tryz.pinned.checked.prog.unfollowed 3) : Bool) = true := by kernel_rfl
theorem fact12 : ((Rows.restrictViewsRow.recurses == Tryz.pinned.checked.prog.recurses 3) : Bool) = true := by kernel_rfl
theorem fact13 : ((Rows.restrictViewsRow.named == Tryz.pinned.checked.prog.varsNamed 3) : Bool) = true := by kernel_rfl
theorem fact14 : ((Rows.restrictViewsRow.maps == (Tryz.f3.params.toList ++ (OpenSpec.ofChange Rows.restrictViewsSpec).bare.plain.varTypes Tryz.pinned.checked.prog).any (Tryz.pinned.checked.prog.mapsRec ·)) : Bool) = true := by kernel_rfl
theorem fact15 : ((Rows.restrictViewsRow.ifaces == (Tryz.f3.params.toList ++ (OpenSpec.ofChange Rows.restrictViewsSpec).bare.plain.varTypes Tryz.pinned.checked.prog).any (Tryz.pinned.checked.prog.ifacesRec ·)) : Bool) = true := by kernel_rfl
theorem fact16 : ((Rows.restrictViewsRow.mapsOut == Tryz.pinned.checked.prog.mapsAmong Tryz.f3.resultTypes.toList) : Bool) = true := by kernel_rfl
theorem fact17 : ((Rows.restrictViewsRow.loops == (Tryz.f3.params.toList ++ (OpenSpec.ofChange Rows.restrictViewsSpec).bare.plain.varTypes Tryz.pinned.checked.prog).any (Tryz.pinned.checked.prog.loopsFrom ·)) : Bool) = true := by kernel_rfl
theorem fact18 : ((Rows.restrictViewsRow.wideKeys == (Tryz.f3.params.toList ++ (OpenSpec.ofChange Rows.restrictViewsSpec).bare.plain.varTypes Tryz.pinned.checked.prog ++ Tryz.f3.resultTypes.toList).any (Tryz.pinned.checked.prog.wideKeysFrom ·)) : Bool) = true := by kernel_rfl
theorem fact19 : ((OpenSpec.ofChange Rows.restrictViewsSpec).bare.vars.all (Tryz.pinned.checked.prog.varReadable ·) : Bool) = true := by kernel_rfl
theorem fact20 : (Tryz.f3.resultTypes.all (fun t => Tryz.pinned.checked.prog.readableRec t && decide (t < Tryz.pinned.checked.prog.types.size)) : Bool) = true := by kernel_rfl
theorem fact21 : ((Rows.restrictViewsRow.ifacesOut == Tryz.f3.resultTypes.toList.any (Tryz.pinned.checked.prog.ifacesRec ·)) : Bool) = true := by kernel_rfl
theorem fact22 : ((Rows.restrictViewsRow.loopsOut == Tryz.f3.resultTypes.toList.any (Tryz.pinned.checked.prog.loopsFrom ·)) : Bool) = true := by kernel_rfl
theorem fact23 : ((Rows.restrictViewsRow.plainKeys == Tryz.pinned.checked.prog.plainKeys) : Bool) = true := by kernel_rfl
theorem fact24 : (Rows.restrictViewsRow.shortTexts.isNone : Bool) = true := by kernel_rfl
theorem fact25 : (Tryz.pinned.checked.prog.stopsHeard : Bool) = true := by kernel_rfl
theorem fact26 : (Tryz.pinned.checked.prog.mayEnter : Bool) = true := by kernel_rfl
theorem fact27 : ((Rows.restrictViewsRow.lifted == Tryz.pinned.checked.prog.liftsFinal) : Bool) = true := by kernel_rfl
theorem fact28 : ((Tryz.pinned.checked.prog.make == some Rows.restrictViewsRow.make) : Bool) = true := by kernel_rfl
theorem fact29 : ((Rows.restrictViewsRow.kinds == (if Rows.restrictViewsRow.domain.isEmpty then [] else Tryz.f3.params.toList.map fun t => match Tryz.pinned.checked.prog.underlying t with | some (.int k) => some k | _ => none)) : Bool) = true := by kernel_rfl
theorem fact30 : ((Rows.restrictViewsRow.pinned == Rows.restrictViewsRow.pinnedBy) : Bool) = true := by kernel_rfl
theorem fact31 : ((Rows.restrictViewsRow.veiled == (Tryz.f3.params.toList ++ (OpenSpec.ofChange Rows.restrictViewsSpec).bare.plain.varTypes Tryz.pinned.checked.prog ++ Tryz.f3.resultTypes.toList).any (Tryz.pinned.checked.prog.veiledRec ·)) : Bool) = true := by kernel_rfl
theorem fact32 : (Rows.restrictViewsRow.veiledFits Tryz.pinned.checked.prog Tryz.f3.params.toList (Tryz.f3.params.toList ++ (OpenSpec.ofChange Rows.restrictViewsSpec).bare.plain.varTypes Tryz.pinned.checked.prog ++ Tryz.f3.resultTypes.toList) : Bool) = true := by kernel_rfl
theorem andB {a b : Bool} (h : a = true) (k : b = true) : (a && b) = true := by rw [h, k]; rfl
set_option maxRecDepth 100000 in
theorem closed : joinedFacts Tryz.pinned.checked.prog 3 Tryz.f3 (OpenSpec.ofChange Rows.restrictViewsSpec).bare Rows.restrictViewsRow = true := by
  unfold joinedFacts
  exact (andB (andB (andB (andB (andB (andB (andB (andB (andB (andB (andB (andB (andB (andB (andB (andB (andB (andB (andB (andB (andB (andB (andB (andB (andB (andB (andB (andB (andB (andB (andB fact1 fact2) fact3) fact4) fact5) fact6) fact7) fact8) fact9) fact10) fact11) fact12) fact13) fact14) fact15) fact16) fact17) fact18) fact19) fact20) fact21) fact22) fact23) fact24) fact25) fact26) fact27) fact28) fact29) fact30) fact31) fact32)
end Go.Proofs.YtdlcmpbpdbpanaaGreatDoor.lawRestrictViews
