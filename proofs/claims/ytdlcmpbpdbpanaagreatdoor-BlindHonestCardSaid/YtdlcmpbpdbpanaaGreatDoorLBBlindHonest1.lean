/- What an honest signer and an honest receiver make is a right signature, and their view is right: specielaw23.BlindHonest returns true. For every input; the tables of packages math/bits, prime and digest as the program's text lays them. The closed facts of the row of specielaw23.BlindHonest, one by one: all at once they outgrow the memory. BlindHonest: the walk. -/
import Derived.Test.YtdlcmpbpdbpanaaGreatDoorMB26
import Derived.Test.YtdlcmpbpdbpanaaGreatDoorMB27
import Derived.Test.YtdlcmpbpdbpanaaGreatDoorRows
import Derived.Test.YtdlcmpbpdbpanaaGreatDoorMB31
import Derived.JoinedCond
import Derived.KernelRfl
import Derived.Lay
namespace Go.Proofs.YtdlcmpbpdbpanaaGreatDoor
open Go.RowKit Go.Sp
set_option maxHeartbeats 4000000
set_option maxRecDepth 20000

theorem BlindHonest_walk (P Q G x k al be : Int) (v : Value) (m : List Int) (w : World) (hP : -9223372036854775808 ≤ P) (hQ : Q ≤ 9223372036854775807) (hT : Tab w) (hS : TabS w) (hv : SeqAt .u8 w v m) (hm : ∀ x ∈ m, 0 ≤ x ∧ x ≤ 255) :
    Calls Tryz.prog 11 #[grp P Q G, .int .i64 x, .int .i64 k, .int .i64 al, .int .i64 be, v] w fun e w' => e = .returned (.bool true) ∧ Up w w' := by
  have HT := hid hT
  have HS := hid hS
  have HV := hid hv
  have HM := hid hm
  obtain ⟨va, vc, rfl, _, _⟩ := hv.shape
  obtain ⟨n, hn⟩ : ∃ n, m.length = n := ⟨_, rfl⟩
  have HN := hid hn
  rw [hn] at HV ⊢
  obtain ⟨o, ho⟩ : ∃ o, w.heap.size = o := ⟨_, rfl⟩
  have HO := hid ho
  clear hT hS hv hm hn ho
  go_enter Tryz.func11, Tryz.ntmps11
  go_wp2_with fail
  refine (awake23 _ (HT.out.up ((Up.refl w).alloc _)) (HS.out.up ((Up.refl w).alloc _))).mono ?_
  rintro e w1 ⟨rfl, hU1⟩
  have HA1 := hid ((nums_three (w := w) (t := 23) HO.out).up hU1)
  have HU1 := hid (((Up.refl w).alloc _).trans hU1)
  clear hU1
  rw [HO.out]
  obtain ⟨c0, c1, c2⟩ := HA1.out
  by_cases hl : n > 1000
  case pos =>
    have dl : decide ((n : Int) > 1000) = true := by simp; omega
    clear hl
    go_wp2_with fail
    refine (awake23 _ (HT.out.up (HU1.out)) (HS.out.up (HU1.out))).mono ?_
    rintro e w2 ⟨rfl, hU2⟩
    have HA2 := hid (HA1.out.up hU2)
    have HU2 := hid (HU1.out.trans hU2)
    clear hU2 HA1 HU1 c0 c1 c2
    go_wp2
    go_ret
    exact ⟨rfl, HU2.out⟩
  have dl : decide ((n : Int) > 1000) = false := by simp; omega
  go_wp2_with fail
  refine (rValid_any P Q G _ hP hQ).mono ?_
  rintro e w2 ⟨rfl, hU2⟩
  have HA2 := hid (HA1.out.up hU2)
  have HU2 := hid (HU1.out.trans hU2)
  clear hU2 HA1 HU1 c0 c1 c2
  obtain ⟨c0, c1, c2⟩ := HA2.out
  by_cases h : gvB P Q G = true
  case neg =>
    have h' : gvB P Q G = false := by simpa using h
    rw [h']
    clear h h'
    go_wp2_with fail
    refine (awake23 _ (HT.out.up (HU2.out)) (HS.out.up (HU2.out))).mono ?_
    rintro e w3 ⟨rfl, hU3⟩
    have HA3 := hid (HA2.out.up hU3)
    have HU3 := hid (HU2.out.trans hU3)
    clear hU3 HA2 HU2 c0 c1 c2
    go_wp2
    go_ret
    exact ⟨rfl, HU3.out⟩
  have hg := h
  rw [h]
  clear h
  go_wp2_with fail
  refine (r23Scalar_any P Q G x _).mono ?_
  rintro e w3 ⟨rfl, hU3⟩
  have HA3 := hid (HA2.out.up hU3)
  have HU3 := hid (HU2.out.trans hU3)
  clear hU3 HA2 HU2 c0 c1 c2
  obtain ⟨c0, c1, c2⟩ := HA3.out
  by_cases h : exB Q x = true
  case neg =>
    have h' : exB Q x = false := by simpa using h
    rw [h']
    clear h h'
    go_wp2_with fail
    refine (awake23 _ (HT.out.up (HU3.out)) (HS.out.up (HU3.out))).mono ?_
    rintro e w4 ⟨rfl, hU4⟩
    have HA4 := hid (HA3.out.up hU4)
    have HU4 := hid (HU3.out.trans hU4)
    clear hU4 HA3 HU3 c0 c1 c2
    go_wp2
    go_ret
    exact ⟨rfl, HU4.out⟩
  have h0 := h
  rw [h]
  clear h
  go_wp2_with fail
  refine (r23Scalar_any P Q G k _).mono ?_
  rintro e w4 ⟨rfl, hU4⟩
  have HA4 := hid (HA3.out.up hU4)
  have HU4 := hid (HU3.out.trans hU4)
  clear hU4 HA3 HU3 c0 c1 c2
  obtain ⟨c0, c1, c2⟩ := HA4.out
  by_cases h : exB Q k = true
  case neg =>
    have h' : exB Q k = false := by simpa using h
    rw [h']
    clear h h'
    go_wp2_with fail
    refine (awake23 _ (HT.out.up (HU4.out)) (HS.out.up (HU4.out))).mono ?_
    rintro e w5 ⟨rfl, hU5⟩
    have HA5 := hid (HA4.out.up hU5)
    have HU5 := hid (HU4.out.trans hU5)
    clear hU5 HA4 HU4 c0 c1 c2
    go_wp2
    go_ret
    exact ⟨rfl, HU5.out⟩
  have h1 := h
  rw [h]
  clear h
  go_wp2_with fail
  refine (r23Scalar_any P Q G al _).mono ?_
  rintro e w5 ⟨rfl, hU5⟩
  have HA5 := hid (HA4.out.up hU5)
  have HU5 := hid (HU4.out.trans hU5)
  clear hU5 HA4 HU4 c0 c1 c2
  obtain ⟨c0, c1, c2⟩ := HA5.out
  by_cases h : exB Q al = true
  case neg =>
    have h' : exB Q al = false := by simpa using h
    rw [h']
    clear h h'
    go_wp2_with fail
    refine (awake23 _ (HT.out.up (HU5.out)) (HS.out.up (HU5.out))).mono ?_
    rintro e w6 ⟨rfl, hU6⟩
    have HA6 := hid (HA5.out.up hU6)
    have HU6 := hid (HU5.out.trans hU6)
    clear hU6 HA5 HU5 c0 c1 c2
    go_wp2
    go_ret
    exact ⟨rfl, HU6.out⟩
  have h2 := h
  rw [h]
  clear h
  go_wp2_with fail
  refine (r23Scalar_any P Q G be _).mono ?_
  rintro e w6 ⟨rfl, hU6⟩
  have HA6 := hid (HA5.out.up hU6)
  have HU6 := hid (HU5.out.trans hU6)
  clear hU6 HA5 HU5 c0 c1 c2
  obtain ⟨c0, c1, c2⟩ := HA6.out
  by_cases h : exB Q be = true
  case neg =>
    have h' : exB Q be = false := by simpa using h
    rw [h']
    clear h h'
    go_wp2_with fail
    refine (awake23 _ (HT.out.up (HU6.out)) (HS.out.up (HU6.out))).mono ?_
    rintro e w7 ⟨rfl, hU7⟩
    have HA7 := hid (HA6.out.up hU7)
    have HU7 := hid (HU6.out.trans hU7)
    clear hU7 HA6 HU6 c0 c1 c2
    go_wp2
    go_ret
    exact ⟨rfl, HU7.out⟩
  have h3 := h
  rw [h]
  clear h
  obtain ⟨K, D, C, S, T, H⟩ := honest_all (m := m) hg h0 h1 h2 h3 (by rw [HN.out]; omega)
  have hMk := fun w' (hU : Up w w') => sigKey_any P Q G x w' hP hQ (HT.out.up hU)
  have hMo := fun w' (hU : Up w w') => bliOffer_any P Q G k w' hP hQ (HT.out.up hU)
  generalize pwi P G x = y at *
  generalize pwi P G k = r at *
  rw [H.key, show orZ 0 y = y from rfl] at hMk
  rw [H.offer, show orZ 0 r = r from rfl] at hMo
  have hMb := fun w' (hU : Up w w') => bliBlind_any P Q G y r al be _ m w' hP hQ (HT.out.up hU) (HS.out.up hU) (HV.out.up hU) HM.out
  rw [H.blind, H.com, H.chal, H.blinded, show orZ 0 al = al from rfl, show orZ 0 be = be from rfl, show orZ 0 K = K from rfl, show orZ 0 D = D from rfl, show orZ 0 C = C from rfl] at hMb
  have hMa := fun w' (hU : Up w w') => bliAnswer_any P Q G x k C w' hP hQ (HT.out.up hU)
  rw [H.answer, H.ans, show orZ 0 S = S from rfl] at hMa
  have hMu := fun w' (hU : Up w w') => bliUnblind_any P Q G y r al be K D S w' hP hQ (HT.out.up hU)
  rw [H.unblind, H.last, show orZ 0 D = D from rfl, show orZ 0 T = T from rfl] at hMu
  have hMv := fun w' (hU : Up w w') => sigVerify_any P Q G y D T _ m w' hP hQ (HT.out.up hU) (HS.out.up hU) (HV.out.up hU) HM.out
  rw [H.right] at hMv
  have hMc := fun w' (hU : Up w w') => bliCheck_any P Q G y r C S w' hP hQ (HT.out.up hU)
  rw [H.view] at hMc
  have hMf := fun w' (hU : Up w w') => bliFactors_any P Q G y r C S _ m D T w' hP hQ (HT.out.up hU) (HS.out.up hU) (HV.out.up hU) HM.out
  rw [H.given, H.fal, H.fbe, show orZ 0 al = al from rfl, show orZ 0 be = be from rfl] at hMf
  have Mk := hid hMk
  have Mo := hid hMo
  have Mb := hid hMb
  have Ma := hid hMa
  have Mu := hid hMu
  have Mv := hid hMv
  have Mc := hid hMc
  have Mf := hid hMf
  clear hMk hMo hMb hMa hMu hMv hMc hMf H hg h0 h1 h2 h3 hl
  have e1 : (al == al) = true := by simp
  have e2 : (be == be) = true := by simp
  go_wp2_with fail
  refine (Mk.out _ (HU6.out)).mono ?_
  rintro e w7 ⟨rfl, hU7⟩
  have HA7 := hid (HA6.out.up hU7)
  have HU7 := hid (HU6.out.trans hU7)
  clear hU7 HA6 HU6 c0 c1 c2
  obtain ⟨c0, c1, c2⟩ := HA7.out
  go_wp2_with fail
  refine (Mo.out _ (HU7.out)).mono ?_
  rintro e w8 ⟨rfl, hU8⟩
  have HA8 := hid (HA7.out.up hU8)
  have HU8 := hid (HU7.out.trans hU8)
  clear hU8 HA7 HU7 c0 c1 c2
  obtain ⟨c0, c1, c2⟩ := HA8.out
  go_wp2_with fail
  refine (Mb.out _ (HU8.out)).mono ?_
  rintro e w9 ⟨rfl, hU9⟩
  have HA9 := hid (HA8.out.up hU9)
  have HU9 := hid (HU8.out.trans hU9)
  clear hU9 HA8 HU8 c0 c1 c2
  obtain ⟨c0, c1, c2⟩ := HA9.out
  obtain ⟨ob, hob⟩ : ∃ ob, w9.heap.size = ob := ⟨_, rfl⟩
  have lob : o < ob := by rw [← hob]; exact cell_lt c0
  go_wp2_with fail
  refine (Ma.out _ (HU9.out.alloc _)).mono ?_
  rintro e w10 ⟨rfl, hU10⟩
  have HB10 := hid ((Blk.new (g := ob) (t := 71) (cs := #[.int .i64 al, .int .i64 be, .int .i64 K, .int .i64 D]) hob rfl).up hU10)
  have hU10 := ((Up.refl w9).alloc _).trans hU10
  have HA10 := hid (HA9.out.up hU10)
  have HU10 := hid (HU9.out.trans hU10)
  clear hU10 HA9 HU9 c0 c1 c2
  try rw [hob]
  clear hob
  obtain ⟨c0, c1, c2⟩ := HA10.out
  have u0 := HB10.out.val (i := 0) rfl
  have u1 := HB10.out.val (i := 1) rfl
  have u2 := HB10.out.val (i := 2) rfl
  have u3 := HB10.out.val (i := 3) rfl
  go_wp2_with fail
  refine (Mu.out _ (HU10.out)).mono ?_
  rintro e w11 ⟨rfl, hU11⟩
  have HA11 := hid (HA10.out.up hU11)
  have HB11 := hid (HB10.out.up hU11)
  have HU11 := hid (HU10.out.trans hU11)
  clear hU11 HA10 HB10 HU10 c0 c1 c2 u0 u1 u2 u3
  obtain ⟨c0, c1, c2⟩ := HA11.out
  have u0 := HB11.out.val (i := 0) rfl
  have u1 := HB11.out.val (i := 1) rfl
  have u2 := HB11.out.val (i := 2) rfl
  have u3 := HB11.out.val (i := 3) rfl
  obtain ⟨os, hos⟩ : ∃ os, w11.heap.size = os := ⟨_, rfl⟩
  have los : o < os := by rw [← hos]; exact cell_lt c0
  have lus : ob < os := by rw [← hos]; exact cell_lt u0
  go_wp2_with fail
  refine (Mv.out _ (HU11.out.alloc _)).mono ?_
  rintro e w12 ⟨rfl, hU12⟩
  have HS12 := hid ((nums_two (w := w11) (r := os) (t := 67) (x := D) (y := T) hos).up hU12)
  have hU12 := ((Up.refl w11).alloc _).trans hU12
  have HA12 := hid (HA11.out.up hU12)
  have HB12 := hid (HB11.out.up hU12)
  have HU12 := hid (HU11.out.trans hU12)
  clear hU12 HA11 HB11 HU11 c0 c1 c2 u0 u1 u2 u3
  try rw [hos]
  clear hos
  obtain ⟨c0, c1, c2⟩ := HA12.out
  have u0 := HB12.out.val (i := 0) rfl
  have u1 := HB12.out.val (i := 1) rfl
  have u2 := HB12.out.val (i := 2) rfl
  have u3 := HB12.out.val (i := 3) rfl
  obtain ⟨s0, s1⟩ := HS12.out
  go_wp2_with fail
  refine (Mc.out _ (HU12.out)).mono ?_
  rintro e w13 ⟨rfl, hU13⟩
  have HA13 := hid (HA12.out.up hU13)
  have HB13 := hid (HB12.out.up hU13)
  have HS13 := hid (HS12.out.up hU13)
  have HU13 := hid (HU12.out.trans hU13)
  clear hU13 HA12 HB12 HS12 HU12 c0 c1 c2 u0 u1 u2 u3 s0 s1
  obtain ⟨c0, c1, c2⟩ := HA13.out
  have u0 := HB13.out.val (i := 0) rfl
  have u1 := HB13.out.val (i := 1) rfl
  have u2 := HB13.out.val (i := 2) rfl
  have u3 := HB13.out.val (i := 3) rfl
  obtain ⟨s0, s1⟩ := HS13.out
  go_wp2_with fail
  refine (Mf.out _ (HU13.out)).mono ?_
  rintro e w14 ⟨rfl, hU14⟩
  have HA14 := hid (HA13.out.up hU14)
  have HB14 := hid (HB13.out.up hU14)
  have HS14 := hid (HS13.out.up hU14)
  have HU14 := hid (HU13.out.trans hU14)
  clear hU14 HA13 HB13 HS13 HU13 c0 c1 c2 u0 u1 u2 u3 s0 s1
  go_wp2
  go_ret
  exact ⟨rfl, HU14.out⟩
end Go.Proofs.YtdlcmpbpdbpanaaGreatDoor
namespace Go.Proofs.YtdlcmpbpdbpanaaGreatDoor.lawBlindHonest
open Go.Proofs.YtdlcmpbpdbpanaaGreatDoor
theorem fact1 : (Rows.blindHonestRow.wf (OpenSpec.ofChange (OpenSpec.ofChange Rows.blindHonestSpec).bare) : Bool) = true := by kernel_rfl
theorem fact2 : (laidOutB Tryz.pinned.checked.prog : Bool) = true := by kernel_rfl
theorem fact3 : (mapsRowed Tryz.pinned.checked.prog : Bool) = true := by kernel_rfl
theorem fact4 : (Tryz.f11.params.all (Tryz.pinned.checked.prog.readableRec ·) : Bool) = true := by kernel_rfl
theorem fact5 : (namedTie Tryz.pinned.checked.prog Rows.blindHonestRow.named (OpenSpec.ofChange Rows.blindHonestSpec).bare.vars : Bool) = true := by kernel_rfl
theorem fact6 : ((Rows.blindHonestRow.stops == []) : Bool) = true := by kernel_rfl
theorem fact7 : ((Tryz.pinned.checked.prog.stops == []) : Bool) = true := by kernel_rfl
theorem fact8 : ((Rows.blindHonestRow.knobs == []) : Bool) = true := by kernel_rfl
theorem fact9 : ((Tryz.pinned.checked.prog.stopKnobs == []) : Bool) = true := by kernel_rfl
theorem fact10 : ((Rows.blindHonestRow.inPlace == Tryz.pinned.checked.prog.inPlace 11) : Bool) = true := by kernel_rfl
theorem fact11 : ((Rows.blindHonestRow.unfollowed == Tryz.pinned.checked.prog.unfollowed 11) : Bool) = true := by kernel_rfl
theorem fact12 : ((Rows.blindHonestRow.recurses == Tryz.pinned.checked.prog.recurses 11) : Bool) = true := by kernel_rfl
theorem fact13 : ((Rows.blindHonestRow.named == Tryz.pinned.checked.prog.varsNamed 11) : Bool) = true := by kernel_rfl
theorem fact14 : ((Rows.blindHonestRow.maps == (Tryz.f11.params.toList ++ (OpenSpec.ofChange Rows.blindHonestSpec).bare.plain.varTypes Tryz.pinned.checked.prog).any (Tryz.pinned.checked.prog.mapsRec ·)) : Bool) = true := by kernel_rfl
theorem fact15 : ((Rows.blindHonestRow.ifaces == (Tryz.f11.params.toList ++ (OpenSpec.ofChange Rows.blindHonestSpec).bare.plain.varTypes Tryz.pinned.checked.prog).any (Tryz.pinned.checked.prog.ifacesRec ·)) : Bool) = true := by kernel_rfl
theorem fact16 : ((Rows.blindHonestRow.mapsOut == Tryz.pinned.checked.prog.mapsAmong Tryz.f11.resultTypes.toList) : Bool) = true := by kernel_rfl
theorem fact17 : ((Rows.blindHonestRow.loops == (Tryz.f11.params.toList ++ (OpenSpec.ofChange Rows.blindHonestSpec).bare.plain.varTypes Tryz.pinned.checked.prog).any (Tryz.pinned.checked.prog.loopsFrom ·)) : Bool) = true := by kernel_rfl
theorem fact18 : ((Rows.blindHonestRow.wideKeys == (Tryz.f11.params.toList ++ (OpenSpec.ofChange Rows.blindHonestSpec).bare.plain.varTypes Tryz.pinned.checked.prog ++ Tryz.f11.resultTypes.toList).any (Tryz.pinned.checked.prog.wideKeysFrom ·)) : Bool) = true := by kernel_rfl
theorem fact19 : ((OpenSpec.ofChange Rows.blindHonestSpec).bare.vars.all (Tryz.pinned.checked.prog.varReadable ·) : Bool) = true := by kernel_rfl
theorem fact20 : (Tryz.f11.resultTypes.all (fun t => Tryz.pinned.checked.prog.readableRec t && decide (t < Tryz.pinned.checked.prog.types.size)) : Bool) = true := by kernel_rfl
theorem fact21 : ((Rows.blindHonestRow.ifacesOut == Tryz.f11.resultTypes.toList.any (Tryz.pinned.checked.prog.ifacesRec ·)) : Bool) = true := by kernel_rfl
theorem fact22 : ((Rows.blindHonestRow.loopsOut == Tryz.f11.resultTypes.toList.any (Tryz.pinned.checked.prog.loopsFrom ·)) : Bool) = true := by kernel_rfl
theorem fact23 : ((Rows.blindHonestRow.plainKeys == Tryz.pinned.checked.prog.plainKeys) : Bool) = true := by kernel_rfl
theorem fact24 : (Rows.blindHonestRow.shortTexts.isNone : Bool) = true := by kernel_rfl
theorem fact25 : (Tryz.pinned.checked.prog.stopsHeard : Bool) = true := by kernel_rfl
theorem fact26 : (Tryz.pinned.checked.prog.mayEnter : Bool) = true := by kernel_rfl
theorem fact27 : ((Rows.blindHonestRow.lifted == Tryz.pinned.checked.prog.liftsFinal) : Bool) = true := by kernel_rfl
theorem fact28 : ((Tryz.pinned.checked.prog.make == some Rows.blindHonestRow.make) : Bool) = true := by kernel_rfl
theorem fact29 : ((Rows.blindHonestRow.kinds == (if Rows.blindHonestRow.domain.isEmpty then [] else Tryz.f11.params.toList.map fun t => match Tryz.pinned.checked.prog.underlying t with | some (.int k) => some k | _ => none)) : Bool) = true := by kernel_rfl
theorem fact30 : ((Rows.blindHonestRow.pinned == Rows.blindHonestRow.pinnedBy) : Bool) = true := by kernel_rfl
theorem fact31 : ((Rows.blindHonestRow.veiled == (Tryz.f11.params.toList ++ (OpenSpec.ofChange Rows.blindHonestSpec).bare.plain.varTypes Tryz.pinned.checked.prog ++ Tryz.f11.resultTypes.toList).any (Tryz.pinned.checked.prog.veiledRec ·)) : Bool) = true := by kernel_rfl
theorem fact32 : (Rows.blindHonestRow.veiledFits Tryz.pinned.checked.prog Tryz.f11.params.toList (Tryz.f11.params.toList ++ (OpenSpec.ofChange Rows.blindHonestSpec).bare.plain.varTypes Tryz.pinned.checked.prog ++ Tryz.f11.resultTypes.toList) : Bool) = true := by kernel_rfl
theorem andB {a b : Bool} (h : a = true) (k : b = true) : (a && b) = true := by rw [h, k]; rfl
set_option maxRecDepth 100000 in
theorem closed : joinedFacts Tryz.pinned.checked.prog 11 Tryz.f11 (OpenSpec.ofChange Rows.blindHonestSpec).bare Rows.blindHonestRow = true := by
  unfold joinedFacts
  exact (andB (andB (andB (andB (andB (andB (andB (andB (andB (andB (andB (andB (andB (andB (andB (andB (andB (andB (andB (andB (andB (andB (andB (andB (andB (andB (andB (andB (andB (andB (andB fact1 fact2) fact3) fact4) fact5) fact6) fact7) fact8) fact9) fact10) fact11) fact12) fact13) fact14) fact15) fact16) fact17) fact18) fact19) fact20) fact21) fact22) fact23) fact24) fact25) fact26) fact27) fact28) fact29) fact30) fact31) fact32)
end Go.Proofs.YtdlcmpbpdbpanaaGreatDoor.lawBlindHonest
namespace Go.Proofs.YtdlcmpbpdbpanaaGreatDoor.lawBlindHonest
open Go.Proofs.YtdlcmpbpdbpanaaGreatDoor Go.ChangeShapes Go.WideShapes Go.ChangeAt Go.RowKit Go.Sp

set_option maxRecDepth 100000 in
theorem contract (H : Type) (enc : TypeId × Value → H) (W : World) (base : Nat) (args : Array Value) (ds gs : List (DataW H)) (before : List MemPlace)
    (hval : ∀ (j : Nat) t v, Tryz.f11.params[j]? = some t → args[j]? = some v → Value.okWide Tryz.prog W .any base t v)
    (hW : DataW.Whole enc Tryz.prog Tryz.f11.params.toList Rows.blindHonestSpec.vars false W args.toList ds gs before) (hL : laidMetH Tryz.prog Rows.blindHonestRow.laid W) :
    Calls Tryz.prog 11 args W fun e W' => ∃ v, e = .returned v ∧ Rows.blindHonestSpec.post enc Tryz.prog Tryz.f11 false true false false W args v W' := by
  have hT := tab_of_four hL
  have hS := tabS_of_four hL
  have hW' := hW
  obtain ⟨p, q, hA0, hV, rfl, hfz, hnd⟩ := hW
  have hA : DataW.TrodAll enc Tryz.prog W 0 (fun _ => true) true Tryz.f11.params.toList args.toList ds p := hA0
  rw [Tryz.params11] at hA hval
  obtain ⟨v0, vs0, d0, ds0, p0, q0, hargs, rfl, rfl, h0, r0⟩ := trodAll_cons hA
  obtain ⟨v1, vs1, d1, ds1, p1, q1, rfl, rfl, rfl, h1, r1⟩ := trodAll_cons r0
  obtain ⟨v2, vs2, d2, ds2, p2, q2, rfl, rfl, rfl, h2, r2⟩ := trodAll_cons r1
  obtain ⟨v3, vs3, d3, ds3, p3, q3, rfl, rfl, rfl, h3, r3⟩ := trodAll_cons r2
  obtain ⟨v4, vs4, d4, ds4, p4, q4, rfl, rfl, rfl, h4, r4⟩ := trodAll_cons r3
  obtain ⟨v5, vs5, d5, ds5, p5, q5, rfl, rfl, rfl, h5, r5⟩ := trodAll_cons r4
  obtain ⟨rfl, rfl, rfl⟩ := trodAll_nil r5
  obtain rfl : args = #[v0, v1, v2, v3, v4, v5] := by cases args; simp_all
  obtain ⟨rfl, rfl⟩ := trodVars_none hV
  obtain ⟨P0, Q0, G0, rfl, bP0, bQ0, bG0⟩ := open_grp (hval 0 23 v0 rfl rfl) h0
  obtain ⟨x1, rfl, bx1, by1⟩ := open_i64 (hval 1 3 v1 rfl rfl) h1
  obtain ⟨x2, rfl, bx2, by2⟩ := open_i64 (hval 2 3 v2 rfl rfl) h2
  obtain ⟨x3, rfl, bx3, by3⟩ := open_i64 (hval 3 3 v3 rfl rfl) h3
  obtain ⟨x4, rfl, bx4, by4⟩ := open_i64 (hval 4 3 v4 rfl rfl) h4
  obtain ⟨xs5, hs5, bs5⟩ := open_bytes (hval 5 51 v5 rfl rfl) h5
  refine (BlindHonest_walk P0 Q0 G0 x1 x2 x3 x4 v5 xs5 W bP0.1 bQ0.2 hT hS hs5 bs5).mono fun e W' ⟨he, hU⟩ => ?_
  exact ⟨_, he, law_shut Tryz.underlying4 (by kernel_rfl) rfl rfl laidOut (by kernel_rfl) hW' hU⟩

theorem laid_met (os : Os) : laidMet Tryz.prog Rows.blindHonestRow.laid ((World.laidAll Tryz.prog os laidFour).forCall (fun _ _ => 0) ⟨#[], #[.agg #[.int .i64 0, .int .i64 0, .int .i64 0], .int .i64 0, .int .i64 0, .int .i64 0, .int .i64 0, .slice none 0 0], []⟩).memory :=
  laidMet_laidAll _ (by kernel_rfl) (by kernel_rfl)
theorem reads (os : Os) {H : Type} (enc : TypeId × Value → H) : ∃ places, DataW.whole enc Tryz.prog ((World.laidAll Tryz.prog os laidFour).forCall (fun _ _ => 0) ⟨#[], #[.agg #[.int .i64 0, .int .i64 0, .int .i64 0], .int .i64 0, .int .i64 0, .int .i64 0, .int .i64 0, .slice none 0 0], []⟩).memory Tryz.f11.params.toList Rows.blindHonestSpec.vars false (#[.agg #[.int .i64 0, .int .i64 0, .int .i64 0], .int .i64 0, .int .i64 0, .int .i64 0, .int .i64 0, .slice none 0 0] : Array Value).toList 8 = some ([.agg [.lit (.int .i64 0), .lit (.int .i64 0), .lit (.int .i64 0)], .lit (.int .i64 0), .lit (.int .i64 0), .lit (.int .i64 0), .lit (.int .i64 0), .nil], [], places) :=
  ⟨[], by kernel_rfl⟩

set_option maxRecDepth 100000 in
theorem lifted (os : Os) (started : os.Started) (H : Type) (enc : TypeId × Value → H) (F : Stop.Interp) :
    ReturnsInHanded {} Tryz.checked os 11 .any ((OpenSpec.ofChange Rows.blindHonestSpec).preRow enc Tryz.prog Tryz.f11 Rows.blindHonestRow.domain false Rows.blindHonestRow.laid) (((OpenSpec.ofChange Rows.blindHonestSpec).at F).post enc Tryz.prog Tryz.f11 false true false false) := by
  obtain ⟨places, hx⟩ := reads os enc
  refine returnsInHanded_of_row (C := Tryz.checked) (s := OpenSpec.ofChange Rows.blindHonestSpec) own started (by kernel_rfl) Tryz.func11
    (witness_row_at (enc := enc) (C := Tryz.checked) false (World.laidAll Tryz.prog os laidFour) #[.agg #[.int .i64 0, .int .i64 0, .int .i64 0], .int .i64 0, .int .i64 0, .int .i64 0, .int .i64 0, .slice none 0 0] (World.laidAll_os _ _ _) (by kernel_rfl) (by kernel_rfl) (by kernel_rfl)
      (OpenSpec.preRow_of_cond 8 hx (by kernel_rfl) (fun k hk => by cases hk) (by kernel_rfl) (laid_met os))) ?_
  intro W base args ds gs before hval hW _ _ _ hL _ _
  exact contract H enc W base args ds gs before hval hW hL

theorem said : Rows.BlindHonestSaid :=
  OpenClaim.holds_of_cond 11 Tryz.f11 rfl rfl rfl rfl rfl rfl rfl ⟨rfl, rfl, rfl, rfl, rfl⟩ rfl rfl rfl rfl rfl (by kernel_rfl) Tryz.func11 closed
    (of_decide_eq_true (by kernel_rfl)) (by unfold Func.isWrapper; first | (rw [if_pos (by decide +kernel)]; kernel_rfl) | (rw [if_neg (by decide +kernel)]; exact ⟨rfl, rfl⟩))
    (fun os started H enc _ F => by rw [OpenClaim.pre_eq_preRow]; exact lifted os started H enc F)

theorem plain (f : FuncId) (fn : Func) (hf : Tryz.pinned.checked.prog.funcNamed "specie/specielaw23.BlindHonest" = some f) (hfn : Tryz.pinned.checked.prog.funcs[f]? = some fn) :
    false = Tryz.pinned.checked.prog.looks [] ∧ ∀ (j : Nat) t, fn.params[j]? = some t → Tryz.pinned.checked.prog.wantsStandIn t = false := by
  obtain rfl : f = 11 := Option.some.inj ((show Tryz.prog.funcNamed "specie/specielaw23.BlindHonest" = some 11 by kernel_rfl).symm.trans hf) |>.symm
  obtain rfl : fn = Tryz.f11 := (Option.some.inj (Tryz.func11.symm.trans hfn)).symm
  refine ⟨by kernel_rfl, fun j t ht => ?_⟩
  have hall : Tryz.f11.params.toList.all (fun t => !Tryz.prog.wantsStandIn t) = true := by kernel_rfl
  have := List.all_eq_true.1 hall t (by rw [← Array.mem_toList_iff.symm]; exact Array.mem_of_getElem? ht)
  exact (by simpa using this : Tryz.prog.wantsStandIn t = false)

/-- The card. -/
theorem card : Rows.BlindHonestCardSaid :=
  Claim7.holds_tied_plain_at .later [] _ _ _ _ said (fun _ h => by cases h) (by kernel_rfl) (fun _ h => by cases h) blindHonest_row_tie rfl ⟨rfl, rfl⟩ (by kernel_rfl) rfl plain (by kernel_rfl)
end Go.Proofs.YtdlcmpbpdbpanaaGreatDoor.lawBlindHonest
