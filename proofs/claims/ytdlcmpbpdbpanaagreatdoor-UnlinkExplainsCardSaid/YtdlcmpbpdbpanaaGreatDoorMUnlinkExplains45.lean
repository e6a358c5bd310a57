/- Package unlink: the methods of a field; the first error. Package unlink: which factors explain. -/
import Derived.Test.YtdlcmpbpdbpanaaGreatDoorMUnlinkExplains43
import Derived.Test.YtdlcmpbpdbpanaaGreatDoorMUnlinkExplains44
namespace Go.Proofs.YtdlcmpbpdbpanaaGreatDoor
open Go.RowKit Go.Sp
set_option maxHeartbeats 4000000
set_option maxRecDepth 20000

theorem fMul_ok (P Q G a b : Int) (w : World) (h0 : 0 ≤ a) (h1 : a < Q) (h2 : 0 ≤ b) (h3 : b < Q) (h4 : Q < 2305843009213693952) :
    Calls Tryz.prog 93 #[grp P Q G, .int .i64 a, .int .i64 b] w fun e w' => e = .returned (.int .i64 (a * b % Q)) ∧ Up w w' := by
  go_enter Tryz.func93, Tryz.ntmps93
  go_wp2_with fail
  refine (Mul_ok a b Q _ h0 h1 h2 h3 h4).mono ?_
  rintro e w3 ⟨rfl, hU3⟩
  go_wp2
  go_ret
  exact ⟨rfl, ((Up.refl w).alloc _).trans hU3⟩

theorem fTimes_ok (P Q G a b : Int) (w : World) (h0 : 0 ≤ a) (h1 : a < P) (h2 : 0 ≤ b) (h3 : b < P) (h4 : P < 2305843009213693952) :
    Calls Tryz.prog 155 #[grp P Q G, .int .i64 a, .int .i64 b] w fun e w' => e = .returned (.int .i64 (a * b % P)) ∧ Up w w' := by
  go_enter Tryz.func155, Tryz.ntmps155
  go_wp2_with fail
  refine (Mul_ok a b P _ h0 h1 h2 h3 h4).mono ?_
  rintro e w3 ⟨rfl, hU3⟩
  go_wp2
  go_ret
  exact ⟨rfl, ((Up.refl w).alloc _).trans hU3⟩

theorem fSub_ok (P Q G a b : Int) (w : World) (h0 : 0 ≤ a) (h1 : a < Q) (h2 : 0 ≤ b) (h3 : b < Q) (h4 : Q < 2305843009213693952) :
    Calls Tryz.prog 92 #[grp P Q G, .int .i64 a, .int .i64 b] w fun e w' => e = .returned (.int .i64 ((a - b) % Q)) ∧ Up w w' := by
  go_enter Tryz.func92, Tryz.ntmps92
  go_wp2_with fail
  refine (Sub_ok a b Q _ h0 h1 h2 h3 h4).mono ?_
  rintro e w3 ⟨rfl, hU3⟩
  go_wp2
  go_ret
  exact ⟨rfl, ((Up.refl w).alloc _).trans hU3⟩

theorem fPow_ok (P Q G a e : Int) (w : World) (h0 : 0 ≤ a) (h1 : a < P) (h2 : 0 ≤ e) (h3 : e ≤ 9223372036854775807) (h4 : P < 2305843009213693952) :
    Calls Tryz.prog 154 #[grp P Q G, .int .i64 a, .int .i64 e] w fun e' w' => e' = .returned (.int .i64 (pwi P a e)) ∧ Up w w' := by
  have HP : Hid (pwi P a e = pw a e.toNat P) := hid rfl
  generalize pwi P a e = X at *
  go_enter Tryz.func154, Tryz.ntmps154
  go_wp2_with fail
  refine (Pow_ok a e P _ h0 h1 h2 h3 h4).mono ?_
  rintro e w3 ⟨rfl, hU3⟩
  rw [← HP.out]
  go_wp2
  go_ret
  exact ⟨rfl, ((Up.refl w).alloc _).trans hU3⟩

theorem fScalar_any (P Q G x : Int) (w : World) :
    Calls Tryz.prog 151 #[grp P Q G, .int .i64 x] w fun e w' => e = .returned (.bool (exB Q x)) ∧ Up w w' := by
  have HB : Hid (exB Q x = (decide (0 ≤ x) && decide (x < Q))) := hid rfl
  generalize exB Q x = X at *
  by_cases c1 : x ≥ 0
  case neg =>
    have d1 : decide (x ≥ 0) = false := by simpa using c1
    have hX : X = false := by rw [HB.out, show decide (0 ≤ x) = false from d1]; rfl
    subst hX
    clear c1
    go_enter Tryz.func151, Tryz.ntmps151
    go_wp2
    go_ret
    exact ⟨rfl, (Up.refl w).alloc _⟩
  have d1 : decide (x ≥ 0) = true := by simpa using c1
  have HB2 : Hid (X = decide (x < Q)) := hid (by rw [HB.out, show decide (0 ≤ x) = true from d1]; rfl)
  clear HB
  go_enter Tryz.func151, Tryz.ntmps151
  go_wp2
  go_ret
  exact ⟨by rw [HB2.out]; rfl, (Up.refl w).alloc _⟩

/-- The first error of a view and a signature. -/
def fltE (kv cv ver : Bool) : Int := if kv = true then (if cv = true then (if ver = true then 0 else 12) else 11) else 1

theorem uCheck_any (P Q G A B C k1 k2 k3 m z x y c r p : Int) (root : Nat → Int) (sz sa sb sr : Int) (w : World) (hP : -9223372036854775808 ≤ P) (hQ : Q ≤ 9223372036854775807) (hT : Tab w) (hS : TabS w) (hR : Byt root) :
    Calls Tryz.prog 88 #[bas P Q G A B C, bkey k1 k2 k3, vw m z x y c r, .int .i64 p, hashV root, sgn sz sa sb sr] w fun e w' => e = .returned (.int .i64 (fltE (kvB P Q G A B C k1 k2 k3) (cvB P Q G A B C k1 k2 k3 m z x y c r) (verB P Q G A B C k1 k2 k3 p root sz sa sb sr))) ∧ Up w w' := by
  have M1 := hid (fun w' (hU : Up w w') => resValid_any P Q G A B C k1 k2 k3 w' hP hQ (hT.up hU))
  have M2 := hid (fun w' (hU : Up w w') => resCheckView_any P Q G A B C k1 k2 k3 m z x y c r w' hP hQ (hT.up hU))
  have M3 := hid (fun w' (hU : Up w w') => resVerify_any P Q G A B C k1 k2 k3 p root sz sa sb sr w' hP hQ (hT.up hU) (hS.up hU) hR)
  generalize kvB P Q G A B C k1 k2 k3 = T1 at *
  generalize cvB P Q G A B C k1 k2 k3 m z x y c r = T2 at *
  generalize verB P Q G A B C k1 k2 k3 p root sz sa sb sr = T3 at *
  obtain ⟨E, hE⟩ : ∃ E, fltE T1 T2 T3 = E := ⟨_, rfl⟩
  have HE : Hid (E = if T1 = true then (if T2 = true then (if T3 = true then 0 else 12) else 11) else 1) := hid hE.symm
  rw [hE]
  obtain ⟨cs, hcs⟩ : ∃ cs, arrK .u8 root 32 = cs := ⟨_, rfl⟩
  have HCz : Hid ((Tryz.prog.info? 31).map (·.size) = some cs.size) := hid (by rw [← hcs, arrK_size]; kernel_rfl)
  unfold hashV at M3 ⊢
  rw [hcs] at M3 ⊢
  obtain ⟨o, ho⟩ : ∃ o, w.heap.size = o := ⟨_, rfl⟩
  have HO := hid ho
  obtain ⟨o1, ho1⟩ : ∃ o1, o + 1 = o1 := ⟨_, rfl⟩
  have HO1 := hid ho1
  obtain ⟨o2, ho2⟩ : ∃ o2, o1 + 1 = o2 := ⟨_, rfl⟩
  have HO2 := hid ho2
  obtain ⟨o3, ho3⟩ : ∃ o3, o2 + 1 = o3 := ⟨_, rfl⟩
  have HO3 := hid ho3
  obtain ⟨o4, ho4⟩ : ∃ o4, o3 + 1 = o4 := ⟨_, rfl⟩
  have HO4 := hid ho4
  clear hT hS hR hcs ho ho1 ho2 ho3 ho4 hE
  go_enter Tryz.func88, Tryz.ntmps88
  go_wp2_with fail
  refine (M1.out _ ((((((Up.refl w).alloc _).alloc _).alloc _).alloc _).alloc _)).mono ?_
  rintro e w1 ⟨rfl, hU1⟩
  have HA1 := hid (((nums_six (w := w) (t := 25) HO.out).up (((((Up.refl _).alloc _).alloc _).alloc _).alloc _)).up hU1)
  have HY1 := hid (((nums_three (r := o1) (t := 27) (by have := HO.out; have := HO1.out; have := HO2.out; have := HO3.out; have := HO4.out; simp; omega)).up ((((Up.refl _).alloc _).alloc _).alloc _)).up hU1)
  have HV1 := hid (((nums_six (r := o2) (t := 29) (by have := HO.out; have := HO1.out; have := HO2.out; have := HO3.out; have := HO4.out; simp; omega)).up (((Up.refl _).alloc _).alloc _)).up hU1)
  have HC1 := hid (((Blk.new (g := o3) (t := 31) (by have := HO.out; have := HO1.out; have := HO2.out; have := HO3.out; have := HO4.out; simp; omega) rfl).up ((Up.refl _).alloc _)).up hU1)
  have HS1 := hid (((Blk.new (g := o4) (t := 33) (by have := HO.out; have := HO1.out; have := HO2.out; have := HO3.out; have := HO4.out; simp; omega) rfl)).up hU1)
  have HU1 := hid (((((((Up.refl w).alloc _).alloc _).alloc _).alloc _).alloc _).trans hU1)
  clear hU1
  rw [HO.out, HO1.out, HO2.out, HO3.out, HO4.out]
  obtain ⟨⟨c0, c1, c2⟩, c3, c4, c5⟩ := HA1.out
  obtain ⟨e0, e1, e2⟩ := HY1.out
  obtain ⟨⟨b0, b1, b2⟩, b3, b4, b5⟩ := HV1.out
  have s0 := HS1.out.val (i := 0) rfl
  have s1 := HS1.out.val (i := 1) rfl
  have s2 := HS1.out.val (i := 2) rfl
  have s3 := HS1.out.val (i := 3) rfl
  by_cases h : T1 = true
  case neg =>
    have hE : E = 1 := by rw [HE.out, if_neg h]
    have h' : T1 = false := by simpa using h
    subst hE
    rw [h']
    clear h h'
    go_wp2
    go_ret
    exact ⟨rfl, HU1.out⟩
  have C1 := hid h
  rw [h]
  clear h
  go_wp2_with fail
  refine (M2.out _ (HU1.out)).mono ?_
  rintro e w2 ⟨rfl, hU2⟩
  have HA2 := hid (HA1.out.up hU2)
  have HY2 := hid (HY1.out.up hU2)
  have HV2 := hid (HV1.out.up hU2)
  have HC2 := hid (HC1.out.up hU2)
  have HS2 := hid (HS1.out.up hU2)
  have HU2 := hid (HU1.out.trans hU2)
  clear hU2 HA1 HY1 HV1 HC1 HS1 HU1 c0 c1 c2 c3 c4 c5 e0 e1 e2 b0 b1 b2 b3 b4 b5 s0 s1 s2 s3
  obtain ⟨⟨c0, c1, c2⟩, c3, c4, c5⟩ := HA2.out
  obtain ⟨e0, e1, e2⟩ := HY2.out
  obtain ⟨⟨b0, b1, b2⟩, b3, b4, b5⟩ := HV2.out
  have s0 := HS2.out.val (i := 0) rfl
  have s1 := HS2.out.val (i := 1) rfl
  have s2 := HS2.out.val (i := 2) rfl
  have s3 := HS2.out.val (i := 3) rfl
  by_cases h : T2 = true
  case neg =>
    have hE : E = 11 := by rw [HE.out, if_pos C1.out, if_neg h]
    have h' : T2 = false := by simpa using h
    subst hE
    rw [h']
    clear h h'
    go_wp2
    go_ret
    exact ⟨rfl, HU2.out⟩
  have C2 := hid h
  rw [h]
  clear h
  go_wp2_with (refine wpList_load_row rfl 31 _ rfl o3 rfl 31 cs (0, 0) _ HC2.out Tryz.underlying31 rfl HCz.out ?_)
  refine (M3.out _ (HU2.out)).mono ?_
  rintro e w3 ⟨rfl, hU3⟩
  have HA3 := hid (HA2.out.up hU3)
  have HY3 := hid (HY2.out.up hU3)
  have HV3 := hid (HV2.out.up hU3)
  have HC3 := hid (HC2.out.up hU3)
  have HS3 := hid (HS2.out.up hU3)
  have HU3 := hid (HU2.out.trans hU3)
  clear hU3 HA2 HY2 HV2 HC2 HS2 HU2 c0 c1 c2 c3 c4 c5 e0 e1 e2 b0 b1 b2 b3 b4 b5 s0 s1 s2 s3
  by_cases h : T3 = true
  case neg =>
    have hE : E = 12 := by rw [HE.out, if_pos C1.out, if_pos C2.out, if_neg h]
    have h' : T3 = false := by simpa using h
    subst hE
    rw [h']
    clear h h'
    go_wp2
    go_ret
    exact ⟨rfl, HU3.out⟩
  have C3 := hid h
  rw [h]
  clear h
  have hE : E = 0 := by rw [HE.out, if_pos C1.out, if_pos C2.out, if_pos C3.out]
  subst hE
  go_wp2
  go_ret
  exact ⟨rfl, HU3.out⟩

theorem r26Fault_any (P Q G A B C k1 k2 k3 m z x y c r p : Int) (root : Nat → Int) (sz sa sb sr : Int) (w : World) (hP : -9223372036854775808 ≤ P) (hQ : Q ≤ 9223372036854775807) (hR : Byt root) :
    Calls Tryz.prog 21 #[bas P Q G A B C, bkey k1 k2 k3, vw m z x y c r, .int .i64 p, hashV root, sgn sz sa sb sr] w fun e w' => e = .returned (.int .i64 (fltE (kvB P Q G A B C k1 k2 k3) (cvB P Q G A B C k1 k2 k3 m z x y c r) (verB P Q G A B C k1 k2 k3 p root sz sa sb sr))) ∧ Up w w' := by
  have M1 := hid (fun w' (_ : Up w w') => r25Valid_any P Q G A B C k1 k2 k3 w' hP hQ)
  have M2 := hid (fun w' (_ : Up w w') => r25CheckView_any P Q G A B C k1 k2 k3 m z x y c r w' hP hQ)
  have M3 := hid (fun w' (_ : Up w w') => r25Verify_any P Q G A B C k1 k2 k3 p root sz sa sb sr w' hP hQ hR)
  generalize kvB P Q G A B C k1 k2 k3 = T1 at *
  generalize cvB P Q G A B C k1 k2 k3 m z x y c r = T2 at *
  generalize verB P Q G A B C k1 k2 k3 p root sz sa sb sr = T3 at *
  obtain ⟨E, hE⟩ : ∃ E, fltE T1 T2 T3 = E := ⟨_, rfl⟩
  have HE : Hid (E = if T1 = true then (if T2 = true then (if T3 = true then 0 else 12) else 11) else 1) := hid hE.symm
  rw [hE]
  obtain ⟨cs, hcs⟩ : ∃ cs, arrK .u8 root 32 = cs := ⟨_, rfl⟩
  have HCz : Hid ((Tryz.prog.info? 31).map (·.size) = some cs.size) := hid (by rw [← hcs, arrK_size]; kernel_rfl)
  unfold hashV at M3 ⊢
  rw [hcs] at M3 ⊢
  obtain ⟨o, ho⟩ : ∃ o, w.heap.size = o := ⟨_, rfl⟩
  have HO := hid ho
  obtain ⟨o1, ho1⟩ : ∃ o1, o + 1 = o1 := ⟨_, rfl⟩
  have HO1 := hid ho1
  obtain ⟨o2, ho2⟩ : ∃ o2, o1 + 1 = o2 := ⟨_, rfl⟩
  have HO2 := hid ho2
  obtain ⟨o3, ho3⟩ : ∃ o3, o2 + 1 = o3 := ⟨_, rfl⟩
  have HO3 := hid ho3
  obtain ⟨o4, ho4⟩ : ∃ o4, o3 + 1 = o4 := ⟨_, rfl⟩
  have HO4 := hid ho4
  clear hR hcs ho ho1 ho2 ho3 ho4 hE
  go_enter Tryz.func21, Tryz.ntmps21
  go_wp2_with fail
  refine (M1.out _ ((((((Up.refl w).alloc _).alloc _).alloc _).alloc _).alloc _)).mono ?_
  rintro e w1 ⟨rfl, hU1⟩
  have HA1 := hid (((nums_six (w := w) (t := 25) HO.out).up (((((Up.refl _).alloc _).alloc _).alloc _).alloc _)).up hU1)
  have HY1 := hid (((nums_three (r := o1) (t := 27) (by have := HO.out; have := HO1.out; have := HO2.out; have := HO3.out; have := HO4.out; simp; omega)).up ((((Up.refl _).alloc _).alloc _).alloc _)).up hU1)
  have HV1 := hid (((nums_six (r := o2) (t := 29) (by have := HO.out; have := HO1.out; have := HO2.out; have := HO3.out; have := HO4.out; simp; omega)).up (((Up.refl _).alloc _).alloc _)).up hU1)
  have HC1 := hid (((Blk.new (g := o3) (t := 31) (by have := HO.out; have := HO1.out; have := HO2.out; have := HO3.out; have := HO4.out; simp; omega) rfl).up ((Up.refl _).alloc _)).up hU1)
  have HS1 := hid (((Blk.new (g := o4) (t := 33) (by have := HO.out; have := HO1.out; have := HO2.out; have := HO3.out; have := HO4.out; simp; omega) rfl)).up hU1)
  have HU1 := hid (((((((Up.refl w).alloc _).alloc _).alloc _).alloc _).alloc _).trans hU1)
  clear hU1
  rw [HO.out, HO1.out, HO2.out, HO3.out, HO4.out]
  obtain ⟨⟨c0, c1, c2⟩, c3, c4, c5⟩ := HA1.out
  obtain ⟨e0, e1, e2⟩ := HY1.out
  obtain ⟨⟨b0, b1, b2⟩, b3, b4, b5⟩ := HV1.out
  have s0 := HS1.out.val (i := 0) rfl
  have s1 := HS1.out.val (i := 1) rfl
  have s2 := HS1.out.val (i := 2) rfl
  have s3 := HS1.out.val (i := 3) rfl
  by_cases h : T1 = true
  case neg =>
    have hE : E = 1 := by rw [HE.out, if_neg h]
    have h' : T1 = false := by simpa using h
    subst hE
    rw [h']
    clear h h'
    go_wp2
    go_ret
    exact ⟨rfl, HU1.out⟩
  have C1 := hid h
  rw [h]
  clear h
  go_wp2_with fail
  refine (M2.out _ (HU1.out)).mono ?_
  rintro e w2 ⟨rfl, hU2⟩
  have HA2 := hid (HA1.out.up hU2)
  have HY2 := hid (HY1.out.up hU2)
  have HV2 := hid (HV1.out.up hU2)
  have HC2 := hid (HC1.out.up hU2)
  have HS2 := hid (HS1.out.up hU2)
  have HU2 := hid (HU1.out.trans hU2)
  clear hU2 HA1 HY1 HV1 HC1 HS1 HU1 c0 c1 c2 c3 c4 c5 e0 e1 e2 b0 b1 b2 b3 b4 b5 s0 s1 s2 s3
  obtain ⟨⟨c0, c1, c2⟩, c3, c4, c5⟩ := HA2.out
  obtain ⟨e0, e1, e2⟩ := HY2.out
  obtain ⟨⟨b0, b1, b2⟩, b3, b4, b5⟩ := HV2.out
  have s0 := HS2.out.val (i := 0) rfl
  have s1 := HS2.out.val (i := 1) rfl
  have s2 := HS2.out.val (i := 2) rfl
  have s3 := HS2.out.val (i := 3) rfl
  by_cases h : T2 = true
  case neg =>
    have hE : E = 11 := by rw [HE.out, if_pos C1.out, if_neg h]
    have h' : T2 = false := by simpa using h
    subst hE
    rw [h']
    clear h h'
    go_wp2
    go_ret
    exact ⟨rfl, HU2.out⟩
  have C2 := hid h
  rw [h]
  clear h
  go_wp2_with (refine wpList_load_row rfl 31 _ rfl o3 rfl 31 cs (0, 0) _ HC2.out Tryz.underlying31 rfl HCz.out ?_)
  refine (M3.out _ (HU2.out)).mono ?_
  rintro e w3 ⟨rfl, hU3⟩
  have HA3 := hid (HA2.out.up hU3)
  have HY3 := hid (HY2.out.up hU3)
  have HV3 := hid (HV2.out.up hU3)
  have HC3 := hid (HC2.out.up hU3)
  have HS3 := hid (HS2.out.up hU3)
  have HU3 := hid (HU2.out.trans hU3)
  clear hU3 HA2 HY2 HV2 HC2 HS2 HU2 c0 c1 c2 c3 c4 c5 e0 e1 e2 b0 b1 b2 b3 b4 b5 s0 s1 s2 s3
  by_cases h : T3 = true
  case neg =>
    have hE : E = 12 := by rw [HE.out, if_pos C1.out, if_pos C2.out, if_neg h]
    have h' : T3 = false := by simpa using h
    subst hE
    rw [h']
    clear h h'
    go_wp2
    go_ret
    exact ⟨rfl, HU3.out⟩
  have C3 := hid h
  rw [h]
  clear h
  have hE : E = 0 := by rw [HE.out, if_pos C1.out, if_pos C2.out, if_pos C3.out]
  subst hE
  go_wp2
  go_ret
  exact ⟨rfl, HU3.out⟩

end Go.Proofs.YtdlcmpbpdbpanaaGreatDoor
namespace Go.Proofs.YtdlcmpbpdbpanaaGreatDoor
open Go.RowKit Go.Sp
set_option maxHeartbeats 4000000
set_option maxRecDepth 20000

/-- Do factors explain a signature with a challenge by a view? -/
def fitB (P Q G vm vz va vb vc vr s u v p c sz sa sb sr : Int) : Bool :=
  facB Q s u v && (sr == (vr * u % Q + v) % Q && (c == vc * u % Q && (p == pwi P vm s && (sz == pwi P vz s && (sa == pwi P va u * pwi P G v % P && sb == pwi P vb (s * u % Q) * pwi P p v % P)))))

theorem explains_any (P Q G vm vz va vb vc vr s u v p c sz sa sb sr : Int) (w : World) (g1 : P < 2305843009213693952) (g2 : 2 ≤ P) (g4 : Q < 2305843009213693952) (g5 : 0 ≤ G) (g6 : G < P)
    (m0 : 0 ≤ vm) (m1 : vm < P) (z0 : 0 ≤ vz) (z1 : vz < P) (a0 : 0 ≤ va) (a1 : va < P) (b0 : 0 ≤ vb) (b1 : vb < P) (c0 : 0 ≤ vc) (c1 : vc < Q) (r0 : 0 ≤ vr) (r1 : vr < Q) (p0 : 0 ≤ p) (p1 : p < P) :
    Calls Tryz.prog 89 #[grp P Q G, vw vm vz va vb vc vr, .agg #[.int .i64 s, .int .i64 u, .int .i64 v], .int .i64 p, .int .i64 c, sgn sz sa sb sr] w fun e w' => e = .returned (.bool (fitB P Q G vm vz va vb vc vr s u v p c sz sa sb sr)) ∧ Up w w' := by
  have HB : Hid (fitB P Q G vm vz va vb vc vr s u v p c sz sa sb sr = (facB Q s u v && (sr == (vr * u % Q + v) % Q && (c == vc * u % Q && (p == pwi P vm s && (sz == pwi P vz s && (sa == pwi P va u * pwi P G v % P && sb == pwi P vb (s * u % Q) * pwi P p v % P))))))) := hid rfl
  generalize fitB P Q G vm vz va vb vc vr s u v p c sz sa sb sr = T at *
  have HSc := hid (fun w' => fScalar_any P Q G v w')
  obtain ⟨o, ho⟩ : ∃ o, w.heap.size = o := ⟨_, rfl⟩
  have HO := hid ho
  obtain ⟨o1, ho1⟩ : ∃ o1, o + 1 = o1 := ⟨_, rfl⟩
  have HO1 := hid ho1
  obtain ⟨o2, ho2⟩ : ∃ o2, o1 + 1 = o2 := ⟨_, rfl⟩
  have HO2 := hid ho2
  obtain ⟨o3, ho3⟩ : ∃ o3, o2 + 1 = o3 := ⟨_, rfl⟩
  have HO3 := hid ho3
  clear ho ho1 ho2 ho3
  by_cases q0 : s < 1
  case pos =>
    have d0 : decide (s < 1) = true := by simpa using q0
    have hX : T = false := by rw [HB.out, show facB Q s u v = false by simp [facB, nzB]; omega]; rfl
    subst hX
    clear q0
    go_enter Tryz.func89, Tryz.ntmps89
    go_wp2
    go_ret
    exact ⟨rfl, ((((Up.refl w).alloc _).alloc _).alloc _).alloc _⟩
  have d0 : decide (s < 1) = false := by simpa using q0
  by_cases q1 : s ≥ Q
  case pos =>
    have d1 : decide (s ≥ Q) = true := by simpa using q1
    have hX : T = false := by rw [HB.out, show facB Q s u v = false by simp [facB, nzB]; omega]; rfl
    subst hX
    clear q0 q1
    go_enter Tryz.func89, Tryz.ntmps89
    go_wp2
    go_ret
    exact ⟨rfl, ((((Up.refl w).alloc _).alloc _).alloc _).alloc _⟩
  have d1 : decide (s ≥ Q) = false := by simpa using q1
  by_cases q2 : u < 1
  case pos =>
    have d2 : decide (u < 1) = true := by simpa using q2
    have hX : T = false := by rw [HB.out, show facB Q s u v = false by simp [facB, nzB]; omega]; rfl
    subst hX
    clear q0 q1 q2
    go_enter Tryz.func89, Tryz.ntmps89
    go_wp2
    go_ret
    exact ⟨rfl, ((((Up.refl w).alloc _).alloc _).alloc _).alloc _⟩
  have d2 : decide (u < 1) = false := by simpa using q2
  by_cases q3 : u ≥ Q
  case pos =>
    have d3 : decide (u ≥ Q) = true := by simpa using q3
    have hX : T = false := by rw [HB.out, show facB Q s u v = false by simp [facB, nzB]; omega]; rfl
    subst hX
    clear q0 q1 q2 q3
    go_enter Tryz.func89, Tryz.ntmps89
    go_wp2
    go_ret
    exact ⟨rfl, ((((Up.refl w).alloc _).alloc _).alloc _).alloc _⟩
  have d3 : decide (u ≥ Q) = false := by simpa using q3
  go_enter Tryz.func89, Tryz.ntmps89
  go_wp2_with fail
  refine (HSc.out _).mono ?_
  rintro e w1 ⟨rfl, hU1⟩
  have HD1 := hid (((nums_three (w := w) (t := 125) HO.out).up ((((Up.refl _).alloc _).alloc _).alloc _)).up hU1)
  have HV1 := hid (((nums_six (r := o1) (t := 29) (by have := HO.out; have := HO1.out; have := HO2.out; have := HO3.out; simp; omega)).up (((Up.refl _).alloc _).alloc _)).up hU1)
  have HF1 := hid (((nums_three (r := o2) (t := 39) (by have := HO.out; have := HO1.out; have := HO2.out; have := HO3.out; simp; omega)).up ((Up.refl _).alloc _)).up hU1)
  have HS1 := hid (((Blk.new (g := o3) (t := 33) (by have := HO.out; have := HO1.out; have := HO2.out; have := HO3.out; simp; omega) rfl)).up hU1)
  have HU1 := hid ((((((Up.refl w).alloc _).alloc _).alloc _).alloc _).trans hU1)
  clear hU1
  rw [HO.out, HO1.out, HO2.out, HO3.out]
  obtain ⟨la0, la1, la2⟩ := HD1.out
  obtain ⟨⟨lb0, lb1, lb2⟩, lb3, lb4, lb5⟩ := HV1.out
  obtain ⟨lf0, lf1, lf2⟩ := HF1.out
  have ls0 := HS1.out.val (i := 0) rfl
  have ls1 := HS1.out.val (i := 1) rfl
  have ls2 := HS1.out.val (i := 2) rfl
  have ls3 := HS1.out.val (i := 3) rfl
  by_cases hv : exB Q v = true
  case neg =>
    have hv' : exB Q v = false := by simpa using hv
    have hX : T = false := by rw [HB.out, show facB Q s u v = false by simp [facB, hv']]; rfl
    subst hX
    rw [hv']
    clear hv hv'
    go_wp2
    go_ret
    exact ⟨rfl, HU1.out⟩
  obtain ⟨v0, v1⟩ := exB_iff.1 hv
  have HB0 : Hid (T = (sr == (vr * u % Q + v) % Q && (c == vc * u % Q && (p == pwi P vm s && (sz == pwi P vz s && (sa == pwi P va u * pwi P G v % P && sb == pwi P vb (s * u % Q) * pwi P p v % P)))))) := hid (by rw [HB.out, show facB Q s u v = true by simp [facB, nzB, hv]; omega]; rfl)
  rw [hv]
  have r2 := Int.emod_nonneg (vr * u) (show Q ≠ 0 by omega)
  have r3 := Int.emod_lt_of_pos (vr * u) (show 0 < Q by omega)
  have s2 := Int.emod_nonneg (s * u) (show Q ≠ 0 by omega)
  have s3 := Int.emod_lt_of_pos (s * u) (show 0 < Q by omega)
  have M1 := hid (fun w' => fMul_ok P Q G vr u w' r0 r1 (by omega) (by omega) g4)
  have M2 := hid (fun w' => Add_ok (vr * u % Q) v Q w' r2 r3 v0 v1 g4)
  have M3 := hid (fun w' => fMul_ok P Q G vc u w' c0 c1 (by omega) (by omega) g4)
  have M4 := hid (fun w' => fPow_ok P Q G vm s w' m0 m1 (by omega) (by omega) g1)
  have M5 := hid (fun w' => fPow_ok P Q G vz s w' z0 z1 (by omega) (by omega) g1)
  have M6 := hid (fun w' => fPow_ok P Q G va u w' a0 a1 (by omega) (by omega) g1)
  have M7 := hid (fun w' => fPow_ok P Q G G v w' g5 g6 (by omega) (by omega) g1)
  obtain ⟨x0, x1⟩ := pwi_range (P := P) (a := va) (e := u) (by omega)
  obtain ⟨x2, x3⟩ := pwi_range (P := P) (a := G) (e := v) (by omega)
  have M8 := hid (fun w' => fTimes_ok P Q G (pwi P va u) (pwi P G v) w' x0 x1 x2 x3 g1)
  have M9 := hid (fun w' => fMul_ok P Q G s u w' (by omega) (by omega) (by omega) (by omega) g4)
  have M10 := hid (fun w' => fPow_ok P Q G vb (s * u % Q) w' b0 b1 s2 (by omega) g1)
  have M11 := hid (fun w' => fPow_ok P Q G p v w' p0 p1 (by omega) (by omega) g1)
  obtain ⟨y0, y1⟩ := pwi_range (P := P) (a := vb) (e := s * u % Q) (by omega)
  obtain ⟨y2, y3⟩ := pwi_range (P := P) (a := p) (e := v) (by omega)
  have M12 := hid (fun w' => fTimes_ok P Q G (pwi P vb (s * u % Q)) (pwi P p v) w' y0 y1 y2 y3 g1)
  generalize pwi P vb (s * u % Q) = X10 at *
  generalize pwi P p v = X11 at *
  generalize X10 * X11 % P = X12 at *
  generalize pwi P va u = X6 at *
  generalize pwi P G v = X7 at *
  generalize X6 * X7 % P = X8 at *
  generalize pwi P vm s = X4 at *
  generalize pwi P vz s = X5 at *
  generalize s * u % Q = X9 at *
  generalize vr * u % Q = X1 at *
  generalize (X1 + v) % Q = X2 at *
  generalize vc * u % Q = X3 at *
  clear hv q0 q1 q2 q3 v0 v1 r2 r3 s2 s3 x0 x1 x2 x3 y0 y1 y2 y3 m0 m1 z0 z1 a0 a1 b0 b1 c0 c1 r0 r1 p0 p1 g1 g2 g4 g5 g6 HSc HB
  have fla0 := cellF la0
  have fla1 := cellF la1
  have fla2 := cellF la2
  have flb0 := cellF lb0
  have flb1 := cellF lb1
  have flb2 := cellF lb2
  have flb3 := cellF lb3
  have flb4 := cellF lb4
  have flb5 := cellF lb5
  have flf0 := cellF lf0
  have flf1 := cellF lf1
  have flf2 := cellF lf2
  have fls0 := cellF ls0
  have fls1 := cellF ls1
  have fls2 := cellF ls2
  have fls3 := cellF ls3
  clear la0 la1 la2 lb0 lb1 lb2 lb3 lb4 lb5 lf0 lf1 lf2 ls0 ls1 ls2 ls3
  go_wp2_with fail
  refine wp_region_up (by kernel_rfl) (by kernel_rfl) ?_
  repeat (go_big_quiet_step ((first
    | (go_at_call 93; exact Calls.up_of (M1.out _))
    | (go_at_call 153; exact Calls.up_of (M2.out _)))))
  refine wpQuiet_nil ?_
  rintro _ ⟨⟨w2, hU2⟩, rfl⟩
  try dsimp only
  have HD2 := hid (HD1.out.up hU2)
  have HV2 := hid (HV1.out.up hU2)
  have HF2 := hid (HF1.out.up hU2)
  have HS2 := hid (HS1.out.up hU2)
  have HU2 := hid (HU1.out.trans hU2)
  clear hU2 HD1 HV1 HF1 HS1 HU1 fla0 fla1 fla2 flb0 flb1 flb2 flb3 flb4 flb5 flf0 flf1 flf2 fls0 fls1 fls2 fls3
  obtain ⟨la0, la1, la2⟩ := HD2.out
  obtain ⟨⟨lb0, lb1, lb2⟩, lb3, lb4, lb5⟩ := HV2.out
  obtain ⟨lf0, lf1, lf2⟩ := HF2.out
  have ls0 := HS2.out.val (i := 0) rfl
  have ls1 := HS2.out.val (i := 1) rfl
  have ls2 := HS2.out.val (i := 2) rfl
  have ls3 := HS2.out.val (i := 3) rfl
  have fla0 := cellF la0
  have fla1 := cellF la1
  have fla2 := cellF la2
  have flb0 := cellF lb0
  have flb1 := cellF lb1
  have flb2 := cellF lb2
  have flb3 := cellF lb3
  have flb4 := cellF lb4
  have flb5 := cellF lb5
  have flf0 := cellF lf0
  have flf1 := cellF lf1
  have flf2 := cellF lf2
  have fls0 := cellF ls0
  have fls1 := cellF ls1
  have fls2 := cellF ls2
  have fls3 := cellF ls3
  clear la0 la1 la2 lb0 lb1 lb2 lb3 lb4 lb5 lf0 lf1 lf2 ls0 ls1 ls2 ls3
  by_cases t0 : sr = X2
  case neg =>
    have e0 : (sr == X2) = false := by simpa using t0
    have hX : T = false := by rw [HB0.out, e0]; rfl
    subst hX
    clear t0 HB0
    go_wp2_with fail
    refine wp_region_up (by kernel_rfl) (by kernel_rfl) ?_
    try simp only [List.append_eq, List.cons_append, List.nil_append]
    repeat (go_big_quiet_step ((first
      | (go_at_call 93; first
        | ((with_reducible (show Calls _ _ #[_, .int .i64 vc, .int .i64 u] _ _)); exact Calls.up_of (M3.out _))
        | ((with_reducible (show Calls _ _ #[_, .int .i64 s, .int .i64 u] _ _)); exact Calls.up_of (M9.out _)))
      | (go_at_call 154; first
        | ((with_reducible (show Calls _ _ #[_, .int .i64 vm, .int .i64 s] _ _)); exact Calls.up_of (M4.out _))
        | ((with_reducible (show Calls _ _ #[_, .int .i64 vz, .int .i64 s] _ _)); exact Calls.up_of (M5.out _))
        | ((with_reducible (show Calls _ _ #[_, .int .i64 va, .int .i64 u] _ _)); exact Calls.up_of (M6.out _))
        | ((with_reducible (show Calls _ _ #[_, .int .i64 G, .int .i64 v] _ _)); exact Calls.up_of (M7.out _))
        | ((with_reducible (show Calls _ _ #[_, .int .i64 vb, .int .i64 X9] _ _)); exact Calls.up_of (M10.out _))
        | ((with_reducible (show Calls _ _ #[_, .int .i64 p, .int .i64 v] _ _)); exact Calls.up_of (M11.out _)))
      | (go_at_call 155; first
        | ((with_reducible (show Calls _ _ #[_, .int .i64 X6, _] _ _)); exact Calls.up_of (M8.out _))
        | ((with_reducible (show Calls _ _ #[_, .int .i64 X10, _] _ _)); exact Calls.up_of (M12.out _))))))
    refine wpQuiet_nil ?_
    rintro _ ⟨p', rfl⟩
    go_wp2
    go_ret
    exact ⟨rfl, HU2.out.trans p'.up⟩
  have e0 : (sr == X2) = true := by simpa using t0
  have HB1 : Hid (T = (c == X3 && (p == X4 && (sz == X5 && (sa == X8 && (sb == X12)))))) := hid (by rw [HB0.out, e0]; rfl)
  clear t0 HB0
  by_cases t1 : c = X3
  case neg =>
    have e1 : (c == X3) = false := by simpa using t1
    have hX : T = false := by rw [HB1.out, e1]; rfl
    subst hX
    clear t1 HB1
    go_wp2_with fail
    refine wp_region_up (by kernel_rfl) (by kernel_rfl) ?_
    try simp only [List.append_eq, List.cons_append, List.nil_append]
    repeat (go_big_quiet_step ((first
      | (go_at_call 93; first
        | ((with_reducible (show Calls _ _ #[_, .int .i64 vc, .int .i64 u] _ _)); exact Calls.up_of (M3.out _))
        | ((with_reducible (show Calls _ _ #[_, .int .i64 s, .int .i64 u] _ _)); exact Calls.up_of (M9.out _)))
      | (go_at_call 154; first
        | ((with_reducible (show Calls _ _ #[_, .int .i64 vm, .int .i64 s] _ _)); exact Calls.up_of (M4.out _))
        | ((with_reducible (show Calls _ _ #[_, .int .i64 vz, .int .i64 s] _ _)); exact Calls.up_of (M5.out _))
        | ((with_reducible (show Calls _ _ #[_, .int .i64 va, .int .i64 u] _ _)); exact Calls.up_of (M6.out _))
        | ((with_reducible (show Calls _ _ #[_, .int .i64 G, .int .i64 v] _ _)); exact Calls.up_of (M7.out _))
        | ((with_reducible (show Calls _ _ #[_, .int .i64 vb, .int .i64 X9] _ _)); exact Calls.up_of (M10.out _))
        | ((with_reducible (show Calls _ _ #[_, .int .i64 p, .int .i64 v] _ _)); exact Calls.up_of (M11.out _)))
      | (go_at_call 155; first
        | ((with_reducible (show Calls _ _ #[_, .int .i64 X6, _] _ _)); exact Calls.up_of (M8.out _))
        | ((with_reducible (show Calls _ _ #[_, .int .i64 X10, _] _ _)); exact Calls.up_of (M12.out _))))))
    refine wpQuiet_nil ?_
    rintro _ ⟨p', rfl⟩
    go_wp2
    go_ret
    exact ⟨rfl, HU2.out.trans p'.up⟩
  have e1 : (c == X3) = true := by simpa using t1
  have HB2 : Hid (T = (p == X4 && (sz == X5 && (sa == X8 && (sb == X12))))) := hid (by rw [HB1.out, e1]; rfl)
  clear t1 HB1
  by_cases t2 : p = X4
  case neg =>
    have e2 : (p == X4) = false := by simpa using t2
    have hX : T = false := by rw [HB2.out, e2]; rfl
    subst hX
    clear t2 HB2
    go_wp2_with fail
    refine wp_region_up (by kernel_rfl) (by kernel_rfl) ?_
    try simp only [List.append_eq, List.cons_append, List.nil_append]
    repeat (go_big_quiet_step ((first
      | (go_at_call 93; first
        | ((with_reducible (show Calls _ _ #[_, .int .i64 vc, .int .i64 u] _ _)); exact Calls.up_of (M3.out _))
        | ((with_reducible (show Calls _ _ #[_, .int .i64 s, .int .i64 u] _ _)); exact Calls.up_of (M9.out _)))
      | (go_at_call 154; first
        | ((with_reducible (show Calls _ _ #[_, .int .i64 vm, .int .i64 s] _ _)); exact Calls.up_of (M4.out _))
        | ((with_reducible (show Calls _ _ #[_, .int .i64 vz, .int .i64 s] _ _)); exact Calls.up_of (M5.out _))
        | ((with_reducible (show Calls _ _ #[_, .int .i64 va, .int .i64 u] _ _)); exact Calls.up_of (M6.out _))
        | ((with_reducible (show Calls _ _ #[_, .int .i64 G, .int .i64 v] _ _)); exact Calls.up_of (M7.out _))
        | ((with_reducible (show Calls _ _ #[_, .int .i64 vb, .int .i64 X9] _ _)); exact Calls.up_of (M10.out _))
        | ((with_reducible (show Calls _ _ #[_, .int .i64 p, .int .i64 v] _ _)); exact Calls.up_of (M11.out _)))
      | (go_at_call 155; first
        | ((with_reducible (show Calls _ _ #[_, .int .i64 X6, _] _ _)); exact Calls.up_of (M8.out _))
        | ((with_reducible (show Calls _ _ #[_, .int .i64 X10, _] _ _)); exact Calls.up_of (M12.out _))))))
    refine wpQuiet_nil ?_
    rintro _ ⟨p', rfl⟩
    go_wp2
    go_ret
    exact ⟨rfl, HU2.out.trans p'.up⟩
  have e2 : (p == X4) = true := by simpa using t2
  have HB3 : Hid (T = (sz == X5 && (sa == X8 && (sb == X12)))) := hid (by rw [HB2.out, e2]; rfl)
  clear t2 HB2
  by_cases t3 : sz = X5
  case neg =>
    have e3 : (sz == X5) = false := by simpa using t3
    have hX : T = false := by rw [HB3.out, e3]; rfl
    subst hX
    clear t3 HB3
    go_wp2_with fail
    refine wp_region_up (by kernel_rfl) (by kernel_rfl) ?_
    try simp only [List.append_eq, List.cons_append, List.nil_append]
    repeat (go_big_quiet_step ((first
      | (go_at_call 93; first
        | ((with_reducible (show Calls _ _ #[_, .int .i64 vc, .int .i64 u] _ _)); exact Calls.up_of (M3.out _))
        | ((with_reducible (show Calls _ _ #[_, .int .i64 s, .int .i64 u] _ _)); exact Calls.up_of (M9.out _)))
      | (go_at_call 154; first
        | ((with_reducible (show Calls _ _ #[_, .int .i64 vm, .int .i64 s] _ _)); exact Calls.up_of (M4.out _))
        | ((with_reducible (show Calls _ _ #[_, .int .i64 vz, .int .i64 s] _ _)); exact Calls.up_of (M5.out _))
        | ((with_reducible (show Calls _ _ #[_, .int .i64 va, .int .i64 u] _ _)); exact Calls.up_of (M6.out _))
        | ((with_reducible (show Calls _ _ #[_, .int .i64 G, .int .i64 v] _ _)); exact Calls.up_of (M7.out _))
        | ((with_reducible (show Calls _ _ #[_, .int .i64 vb, .int .i64 X9] _ _)); exact Calls.up_of (M10.out _))
        | ((with_reducible (show Calls _ _ #[_, .int .i64 p, .int .i64 v] _ _)); exact Calls.up_of (M11.out _)))
      | (go_at_call 155; first
        | ((with_reducible (show Calls _ _ #[_, .int .i64 X6, _] _ _)); exact Calls.up_of (M8.out _))
        | ((with_reducible (show Calls _ _ #[_, .int .i64 X10, _] _ _)); exact Calls.up_of (M12.out _))))))
    refine wpQuiet_nil ?_
    rintro _ ⟨p', rfl⟩
    go_wp2
    go_ret
    exact ⟨rfl, HU2.out.trans p'.up⟩
  have e3 : (sz == X5) = true := by simpa using t3
  have HB4 : Hid (T = (sa == X8 && (sb == X12))) := hid (by rw [HB3.out, e3]; rfl)
  clear t3 HB3
  by_cases t4 : sa = X8
  case neg =>
    have e4 : (sa == X8) = false := by simpa using t4
    have hX : T = false := by rw [HB4.out, e4]; rfl
    subst hX
    clear t4 HB4
    go_wp2_with fail
    refine wp_region_up (by kernel_rfl) (by kernel_rfl) ?_
    try simp only [List.append_eq, List.cons_append, List.nil_append]
    repeat (go_big_quiet_step ((first
      | (go_at_call 93; first
        | ((with_reducible (show Calls _ _ #[_, .int .i64 vc, .int .i64 u] _ _)); exact Calls.up_of (M3.out _))
        | ((with_reducible (show Calls _ _ #[_, .int .i64 s, .int .i64 u] _ _)); exact Calls.up_of (M9.out _)))
      | (go_at_call 154; first
        | ((with_reducible (show Calls _ _ #[_, .int .i64 vm, .int .i64 s] _ _)); exact Calls.up_of (M4.out _))
        | ((with_reducible (show Calls _ _ #[_, .int .i64 vz, .int .i64 s] _ _)); exact Calls.up_of (M5.out _))
        | ((with_reducible (show Calls _ _ #[_, .int .i64 va, .int .i64 u] _ _)); exact Calls.up_of (M6.out _))
        | ((with_reducible (show Calls _ _ #[_, .int .i64 G, .int .i64 v] _ _)); exact Calls.up_of (M7.out _))
        | ((with_reducible (show Calls _ _ #[_, .int .i64 vb, .int .i64 X9] _ _)); exact Calls.up_of (M10.out _))
        | ((with_reducible (show Calls _ _ #[_, .int .i64 p, .int .i64 v] _ _)); exact Calls.up_of (M11.out _)))
      | (go_at_call 155; first
        | ((with_reducible (show Calls _ _ #[_, .int .i64 X6, _] _ _)); exact Calls.up_of (M8.out _))
        | ((with_reducible (show Calls _ _ #[_, .int .i64 X10, _] _ _)); exact Calls.up_of (M12.out _))))))
    refine wpQuiet_nil ?_
    rintro _ ⟨p', rfl⟩
    go_wp2
    go_ret
    exact ⟨rfl, HU2.out.trans p'.up⟩
  have e4 : (sa == X8) = true := by simpa using t4
  have HB5 : Hid (T = (sb == X12)) := hid (by rw [HB4.out, e4]; rfl)
  clear t4 HB4
  go_wp2_with fail
  refine wp_region_up (by kernel_rfl) (by kernel_rfl) ?_
  try simp only [List.append_eq, List.cons_append, List.nil_append]
  repeat (go_big_quiet_step ((first
    | (go_at_call 93; first
      | ((with_reducible (show Calls _ _ #[_, .int .i64 vc, .int .i64 u] _ _)); exact Calls.up_of (M3.out _))
      | ((with_reducible (show Calls _ _ #[_, .int .i64 s, .int .i64 u] _ _)); exact Calls.up_of (M9.out _)))
    | (go_at_call 154; first
      | ((with_reducible (show Calls _ _ #[_, .int .i64 vm, .int .i64 s] _ _)); exact Calls.up_of (M4.out _))
      | ((with_reducible (show Calls _ _ #[_, .int .i64 vz, .int .i64 s] _ _)); exact Calls.up_of (M5.out _))
      | ((with_reducible (show Calls _ _ #[_, .int .i64 va, .int .i64 u] _ _)); exact Calls.up_of (M6.out _))
      | ((with_reducible (show Calls _ _ #[_, .int .i64 G, .int .i64 v] _ _)); exact Calls.up_of (M7.out _))
      | ((with_reducible (show Calls _ _ #[_, .int .i64 vb, .int .i64 X9] _ _)); exact Calls.up_of (M10.out _))
      | ((with_reducible (show Calls _ _ #[_, .int .i64 p, .int .i64 v] _ _)); exact Calls.up_of (M11.out _)))
    | (go_at_call 155; first
      | ((with_reducible (show Calls _ _ #[_, .int .i64 X6, _] _ _)); exact Calls.up_of (M8.out _))
      | ((with_reducible (show Calls _ _ #[_, .int .i64 X10, _] _ _)); exact Calls.up_of (M12.out _))))))
  refine wpQuiet_nil ?_
  rintro _ ⟨p', rfl⟩
  go_wp2
  go_ret
  exact ⟨by rw [HB5.out]; rfl, HU2.out.trans p'.up⟩
end Go.Proofs.YtdlcmpbpdbpanaaGreatDoor
