/- Package unlink: Factors. The reference of layer 26: Count. The reference of layer 26: Factors. UnlinkFactors: the walk. The closed facts of the row of specielaw26.UnlinkFactors, one by one: all at once they outgrow the memory. -/
import Derived.Test.YtdbhleinhpiohaaGreatDoorMB20
import Derived.Test.YtdbhleinhpiohaaGreatDoorMB21
import Derived.Test.YtdbhleinhpiohaaGreatDoorMB18
import Derived.Test.YtdbhleinhpiohaaGreatDoorMB17
import Derived.Test.YtdbhleinhpiohaaGreatDoorMB22
import Derived.Test.YtdbhleinhpiohaaGreatDoorRows
import Derived.JoinedCond
import Derived.KernelRfl
namespace Go.Proofs.YtdbhleinhpiohaaGreatDoor
open Go.RowKit Go.Sp
set_option maxHeartbeats 4000000
set_option maxRecDepth 20000

/-- What Factors returns, by the first error and the factors. -/
def ufT (F Q : Int) (O : Option (Int × Int × Int)) : Int × Int × Int := if F = 0 then (if Q > 1048576 then (0, 0, 0) else (match O with | some x => x | none => (0, 0, 0))) else (0, 0, 0)
def ufE (F Q : Int) (O : Option (Int × Int × Int)) : Int := if F = 0 then (if Q > 1048576 then 9 else (match O with | some _ => 0 | none => 7)) else F
theorem ufT_fault {F Q : Int} {O : Option (Int × Int × Int)} (h : F ≠ 0) : ufT F Q O = (0, 0, 0) := by unfold ufT; rw [if_neg h]
theorem ufE_fault {F Q : Int} {O : Option (Int × Int × Int)} (h : F ≠ 0) : ufE F Q O = F := by unfold ufE; rw [if_neg h]
theorem ufT_big {F Q : Int} {O : Option (Int × Int × Int)} (h : F = 0) (hq : Q > 1048576) : ufT F Q O = (0, 0, 0) := by unfold ufT; rw [if_pos h, if_pos hq]
theorem ufE_big {F Q : Int} {O : Option (Int × Int × Int)} (h : F = 0) (hq : Q > 1048576) : ufE F Q O = 9 := by unfold ufE; rw [if_pos h, if_pos hq]
theorem ufT_none {F Q : Int} {O : Option (Int × Int × Int)} (h : F = 0) (hq : Q ≤ 1048576) (hO : O = none) : ufT F Q O = (0, 0, 0) := by subst hO; unfold ufT; rw [if_pos h, if_neg (by omega)]
theorem ufE_none {F Q : Int} {O : Option (Int × Int × Int)} (h : F = 0) (hq : Q ≤ 1048576) (hO : O = none) : ufE F Q O = 7 := by subst hO; unfold ufE; rw [if_pos h, if_neg (by omega)]
theorem ufT_some {F Q : Int} {O : Option (Int × Int × Int)} {x : Int × Int × Int} (h : F = 0) (hq : Q ≤ 1048576) (hO : O = some x) : ufT F Q O = x := by subst hO; unfold ufT; rw [if_pos h, if_neg (by omega)]
theorem ufE_some {F Q : Int} {O : Option (Int × Int × Int)} {x : Int × Int × Int} (h : F = 0) (hq : Q ≤ 1048576) (hO : O = some x) : ufE F Q O = 0 := by subst hO; unfold ufE; rw [if_pos h, if_neg (by omega)]

theorem gn_ne {P Q x : Int} (h : gnB P Q x = true) : x ≠ 1 := by
  simp only [gnB, Bool.and_eq_true, bne_iff_ne] at h
  exact h.1

theorem uFactors_any (P Q G A B C k1 k2 k3 m z x y c r p : Int) (root : Nat → Int) (sz sa sb sr : Int) (w : World) (hP : -9223372036854775808 ≤ P) (hQ : Q ≤ 9223372036854775807) (hT : Tab w) (hS : TabS w) (hR : Byt root) (t : Int) (ht : fltE (kvB P Q G A B C k1 k2 k3) (cvB P Q G A B C k1 k2 k3 m z x y c r) (verB P Q G A B C k1 k2 k3 p root sz sa sb sr) = 0 → Q ≤ 1048576 → 0 ≤ t ∧ t < Q ∧ c * t % Q = 1 % Q) :
    Calls Tryz.prog 5 #[bas P Q G A B C, bkey k1 k2 k3, vw m z x y c r, .int .i64 p, hashV root, sgn sz sa sb sr] w fun e w' => e = .returned (.tuple #[.agg #[.int .i64 (ufT (fltE (kvB P Q G A B C k1 k2 k3) (cvB P Q G A B C k1 k2 k3 m z x y c r) (verB P Q G A B C k1 k2 k3 p root sz sa sb sr)) Q (facO P Q G m z x y c r p (coinC P Q G A B C p root sz sa sb) sz sa sb sr t)).1, .int .i64 (ufT (fltE (kvB P Q G A B C k1 k2 k3) (cvB P Q G A B C k1 k2 k3 m z x y c r) (verB P Q G A B C k1 k2 k3 p root sz sa sb sr)) Q (facO P Q G m z x y c r p (coinC P Q G A B C p root sz sa sb) sz sa sb sr t)).2.1, .int .i64 (ufT (fltE (kvB P Q G A B C k1 k2 k3) (cvB P Q G A B C k1 k2 k3 m z x y c r) (verB P Q G A B C k1 k2 k3 p root sz sa sb sr)) Q (facO P Q G m z x y c r p (coinC P Q G A B C p root sz sa sb) sz sa sb sr t)).2.2], .int .i64 (ufE (fltE (kvB P Q G A B C k1 k2 k3) (cvB P Q G A B C k1 k2 k3 m z x y c r) (verB P Q G A B C k1 k2 k3 p root sz sa sb sr)) Q (facO P Q G m z x y c r p (coinC P Q G A B C p root sz sa sb) sz sa sb sr t))]) ∧ Up w w' := by
  have M1 := hid (fun w' (hU : Up w w') => uCheck_any P Q G A B C k1 k2 k3 m z x y c r p root sz sa sb sr w' hP hQ (hT.up hU) (hS.up hU) hR)
  have M2 := hid (fun w' (hU : Up w w') => resChallenge_any P Q G A B C p root sz sa sb sr w' hP hQ (hT.up hU) (hS.up hU) hR)
  have HT := hid hT
  have HF := hid (flt_ok (P := P) (Q := Q) (G := G) (A := A) (B := B) (C := C) (k1 := k1) (k2 := k2) (k3 := k3) (m := m) (z := z) (x := x) (y := y) (c := c) (r := r) (p := p) (root := root) (sz := sz) (sa := sa) (sb := sb) (sr := sr))
  generalize fltE (kvB P Q G A B C k1 k2 k3) (cvB P Q G A B C k1 k2 k3 m z x y c r) (verB P Q G A B C k1 k2 k3 p root sz sa sb sr) = E at *
  obtain ⟨⟨rs, ru, rv⟩, hR3⟩ : ∃ X : Int × Int × Int, ufT E Q (facO P Q G m z x y c r p (coinC P Q G A B C p root sz sa sb) sz sa sb sr t) = X := ⟨_, rfl⟩
  obtain ⟨T, hTt⟩ : ∃ T, ufE E Q (facO P Q G m z x y c r p (coinC P Q G A B C p root sz sa sb) sz sa sb sr t) = T := ⟨_, rfl⟩
  have HR3 := hid hR3
  have HTt := hid hTt
  rw [hR3, hTt]
  dsimp only
  clear hR3 hTt
  obtain ⟨cs, hcs⟩ : ∃ cs, arrK .u8 root 32 = cs := ⟨_, rfl⟩
  have HCz : Hid ((Tryz.prog.info? 31).map (·.size) = some cs.size) := hid (by rw [← hcs, arrK_size]; kernel_rfl)
  unfold hashV at M1 M2 ⊢
  rw [hcs] at M1 M2 ⊢
  obtain ⟨o, ho⟩ : ∃ o, w.heap.size = o := ⟨_, rfl⟩
  have HO := hid ho
  obtain ⟨o1, ho1⟩ : ∃ o1, o + 1 = o1 := ⟨_, rfl⟩
  have HO1 := hid ho1
  obtain ⟨o2, ho2⟩ : ∃ o2, o1 + 1 = o2 := ⟨_, rfl⟩
  have HO2 := hid ho2
  obtain ⟨o3, ho3⟩ : ∃ o3, o2 + 1 = o3 := ⟨_, rfl⟩
  have HO3 := hid ho3
  obtain ⟨o4, ho4⟩ : ∃ o4, o3 + 1 = o4 := ⟨_, rfl⟩
  have HO4 := hid ho4
  obtain ⟨o5, ho5⟩ : ∃ o5, o4 + 1 = o5 := ⟨_, rfl⟩
  have HO5 := hid ho5
  have hlw : w.heap.size ≤ o5 := by omega
  have hlt5 : o4 < o5 := by omega
  clear hT hS hR hcs ho ho1 ho2 ho3 ho4 ho5
  go_enter Tryz.func5, Tryz.ntmps5
  go_wp2_with (refine wpList_load_row rfl 31 _ rfl (w.heap.size + 1 + 1 + 1) rfl 31 cs (0, 0) _ (Blk.alloc (Blk.alloc (Blk.new (by simp) rfl) _) _) Tryz.underlying31 rfl HCz.out ?_)
  refine (M1.out _ (((((((Up.refl w).alloc _).alloc _).alloc _).alloc _).alloc _).alloc _)).mono ?_
  rintro e w1 ⟨rfl, hU1⟩
  have HA1 := hid (((nums_six (w := w) (t := 25) HO.out).up ((((((Up.refl _).alloc _).alloc _).alloc _).alloc _).alloc _)).up hU1)
  have HV1 := hid (((nums_six (r := o2) (t := 29) (by have := HO.out; have := HO1.out; have := HO2.out; have := HO3.out; have := HO4.out; have := HO5.out; simp; omega)).up ((((Up.refl _).alloc _).alloc _).alloc _)).up hU1)
  have HC1 := hid (((Blk.new (g := o3) (t := 31) (by have := HO.out; have := HO1.out; have := HO2.out; have := HO3.out; have := HO4.out; have := HO5.out; simp; omega) rfl).up (((Up.refl _).alloc _).alloc _)).up hU1)
  have HS1 := hid (((Blk.new (g := o4) (t := 33) (by have := HO.out; have := HO1.out; have := HO2.out; have := HO3.out; have := HO4.out; have := HO5.out; simp; omega) rfl).up ((Up.refl _).alloc _)).up hU1)
  have HR1 := hid (((Blk.new (g := o5) (t := 36) (cs := #[.int .i64 0, .int .i64 0, .int .i64 0]) (by have := HO.out; have := HO1.out; have := HO2.out; have := HO3.out; have := HO4.out; have := HO5.out; simp; omega) rfl)).up hU1)
  have HU1 := hid ((((((((Up.refl w).alloc _).alloc _).alloc _).alloc _).alloc _).alloc _).trans hU1)
  clear hU1
  rw [HO.out, HO1.out, HO2.out, HO3.out, HO4.out, HO5.out]
  obtain ⟨⟨lc0, lc1, lc2⟩, lc3, lc4, lc5⟩ := HA1.out
  obtain ⟨⟨lb0, lb1, lb2⟩, lb3, lb4, lb5⟩ := HV1.out
  have ls0 := HS1.out.val (i := 0) rfl
  have ls1 := HS1.out.val (i := 1) rfl
  have ls2 := HS1.out.val (i := 2) rfl
  have ls3 := HS1.out.val (i := 3) rfl
  by_cases hE : E = 0
  case neg =>
    have d : (E != 0) = true := by simpa using hE
    have h3 : ((0 : Int), (0 : Int), (0 : Int)) = (rs, ru, rv) := by rw [← HR3.out]; exact (ufT_fault hE).symm
    simp only [Prod.mk.injEq] at h3
    obtain ⟨rfl, rfl, rfl⟩ := h3
    obtain rfl : E = T := by rw [← HTt.out]; exact (ufE_fault hE).symm
    clear HR3 HTt
    have v0 := (HR1.out).val (i := 0) rfl
    have v1 := (HR1.out).val (i := 1) rfl
    have v2 := (HR1.out).val (i := 2) rfl
    have y0 := (HR1.out).thawed 0
    have y1 := (HR1.out).thawed 1
    have y2 := (HR1.out).thawed 2
    clear hE
    go_wp2
    refine bodyPost_ret (v := .tuple #[.agg #[.int .i64 0, .int .i64 0, .int .i64 0], .int .i64 E]) (results_row_tmp Tryz.results5 _ _ o5 36 _ (0, 0) _ (by rfl) (blk_three (HR1.out) _ _ _) Tryz.underlying36 rfl (by kernel_rfl)) rfl ⟨rfl, (((HU1.out).setCell (a := ⟨o5, 0, none⟩) hlw _).setCell (a := ⟨o5, 1, none⟩) hlw _).setCell (a := ⟨o5, 2, none⟩) hlw _⟩
  have t0 := cell_lt lc0
  have t2 := cell_lt lb0
  have t4 := cell_lt ls0
  have t5 := HR1.out.lt
  by_cases hq : Q > 1048576
  case pos =>
    have d1 : decide (Q > 1048576) = true := by simpa using hq
    have h3 : ((0 : Int), (0 : Int), (0 : Int)) = (rs, ru, rv) := by rw [← HR3.out]; exact (ufT_big hE hq).symm
    simp only [Prod.mk.injEq] at h3
    obtain ⟨rfl, rfl, rfl⟩ := h3
    obtain rfl : 9 = T := by rw [← HTt.out]; exact (ufE_big hE hq).symm
    clear HR3 HTt
    have v0 := (HR1.out).val (i := 0) rfl
    have v1 := (HR1.out).val (i := 1) rfl
    have v2 := (HR1.out).val (i := 2) rfl
    have y0 := (HR1.out).thawed 0
    have y1 := (HR1.out).thawed 1
    have y2 := (HR1.out).thawed 2
    subst hE
    clear hq
    go_wp2
    refine bodyPost_ret (v := .tuple #[.agg #[.int .i64 0, .int .i64 0, .int .i64 0], .int .i64 9]) (results_row_tmp Tryz.results5 _ _ o5 36 _ (0, 0) _ (by rfl) ((blk_three (HR1.out) _ _ _).alloc _) Tryz.underlying36 rfl (by kernel_rfl)) rfl ⟨rfl, ((((HU1.out).setCell (a := ⟨o5, 0, none⟩) hlw _).setCell (a := ⟨o5, 1, none⟩) hlw _).setCell (a := ⟨o5, 2, none⟩) hlw _).alloc _⟩
  have d1 : decide (Q > 1048576) = false := by simpa using hq
  obtain ⟨hbv, ⟨hm, hz, hx, hy, hc, hr⟩, hp, hsz, hsa, hsb, hsr⟩ := HF.out hE
  subst hE
  have g := gv_iff.1 (bv_iff.1 hbv).1
  have g1 := g.P61
  have g2 := g.P4
  have g3 := g.Q3
  have g4 := g.QP
  have g5 := g.G2
  have g6 := g.GP
  have hE : chlE P Q G A B C p sz sa sb = 0 := by rw [chlE, if_pos hbv, if_pos (by simp [gn_el hp, hsz, hsa, hsb])]
  have hV : chlV P Q G A B C p root sz sa sb = coinC P Q G A B C p root sz sa sb := by rw [chlV, if_pos hE]
  rw [hE, hV] at M2
  obtain ⟨s0, s1, s2⟩ := ht rfl (by omega)
  have HPr := hid (isP_prim g.pQ (by omega) (by have := g.Qo; omega))
  have HGv := hid (bv_iff.1 hbv).1
  have HGm := hid hm
  have HGp := hid hp
  have hVr := coinC_range P G A B C p root sz sa sb (Q := Q) (by omega)
  generalize coinC P Q G A B C p root sz sa sb = V at *
  obtain ⟨a1, a2, _⟩ := el_iff.1 (gn_el hm)
  obtain ⟨a3, a4, _⟩ := el_iff.1 hz
  obtain ⟨a5, a6, _⟩ := el_iff.1 hx
  obtain ⟨a7, a8, _⟩ := el_iff.1 hy
  obtain ⟨a9, a10⟩ := nzB_iff.1 hc
  obtain ⟨a11, a12⟩ := exB_iff.1 hr
  obtain ⟨a13, a14, _⟩ := el_iff.1 (gn_el hp)
  obtain ⟨a15, a16⟩ := exB_iff.1 hsr
  obtain ⟨U, hU⟩ : ∃ U, V * t % Q = U := ⟨_, rfl⟩
  have u0 : 0 ≤ U := by rw [← hU]; exact Int.emod_nonneg _ (by omega)
  have u1 : U < Q := by rw [← hU]; exact Int.emod_lt_of_pos _ (by omega)
  obtain ⟨X, hX⟩ : ∃ X, r * U % Q = X := ⟨_, rfl⟩
  have x0 : 0 ≤ X := by rw [← hX]; exact Int.emod_nonneg _ (by omega)
  have x1 : X < Q := by rw [← hX]; exact Int.emod_lt_of_pos _ (by omega)
  obtain ⟨Y, hY⟩ : ∃ Y, (sr - X) % Q = Y := ⟨_, rfl⟩
  have hY2 : (sr - r * U % Q) % Q = Y := by rw [hX]; exact hY
  have N1 := hid (fun w' => by have h := fOver_ok P Q G V c t w' hVr.1 hVr.2 (by omega) a10 (by omega) s0 s1 s2; rwa [hU] at h)
  have N2 := hid (fun w' => by have h := fMul_ok P Q G r U w' a11 a12 u0 u1 (by omega); rwa [hX] at h)
  have N3 := hid (fun w' => by have h := fSub_ok P Q G sr X w' a15 a16 x0 x1 (by omega); rwa [hY] at h)
  have N4 := hid (fun (s : Int) w' => explains_any P Q G m z x y c r s U Y p V sz sa sb sr w' g1 (by omega) (by omega) (by omega) g6 (by omega) a2 (by omega) a4 (by omega) a6 (by omega) a8 (by omega) a10 a11 a12 (by omega) a14)
  have HUu := hid hU
  have HYy := hid hY2
  have hQn : Q ≤ 1048576 := by omega
  have HQb := hid hQn
  have HQn := hid hQn
  clear hE hbv hm hz hx hy hc hr hp hsz hsa hsb hsr g g1 g2 g3 g4 g5 g6 hV a1 a2 a3 a4 a5 a6 a7 a8 a9 a10 a11 a12 a13 a14 a15 a16 hq hQn hU hX hY hY2 u0 u1 x0 x1 s0 s1 s2 ht HF hVr
  go_wp2_with (refine wpList_load_row rfl 31 _ rfl o3 rfl 31 cs (0, 0) _ (HC1.out.alloc _) Tryz.underlying31 rfl HCz.out ?_)
  obtain ⟨f, hf⟩ : ∃ f, w1.heap.size = f := ⟨_, rfl⟩
  refine (M2.out _ (HU1.out.alloc _)).mono ?_
  rintro e w2 ⟨rfl, hU2⟩
  have HG2 := hid (((nums_three (w := w1) (r := f) (t := 54) (x := P) (y := Q) (z := G) hf)).up hU2)
  have hU2 := ((Up.refl w1).alloc _).trans hU2
  have HA2 := hid (HA1.out.up hU2)
  have HV2 := hid (HV1.out.up hU2)
  have HC2 := hid (HC1.out.up hU2)
  have HS2 := hid (HS1.out.up hU2)
  have HR2 := hid (HR1.out.up hU2)
  have HU2 := hid (HU1.out.trans hU2)
  clear hU2 HA1 HV1 HC1 HS1 HR1 HU1 lc0 lc1 lc2 lc3 lc4 lc5 lb0 lb1 lb2 lb3 lb4 lb5 ls0 ls1 ls2 ls3
  obtain ⟨⟨lc0, lc1, lc2⟩, lc3, lc4, lc5⟩ := HA2.out
  obtain ⟨⟨lb0, lb1, lb2⟩, lb3, lb4, lb5⟩ := HV2.out
  rw [hf]
  clear hf M2 M1
  obtain ⟨h, hh⟩ : ∃ h, w2.heap.size = h := ⟨_, rfl⟩
  have t0 := cell_lt lc0
  have t2 := cell_lt lb0
  have lwh : w.heap.size ≤ h := by rw [← hh]; exact HU2.out.size
  have l2h : w2.heap.size ≤ h := by omega
  have HH2 := hid (Blk.new (w := w2) (g := h) (t := 36) (cs := #[.int .i64 0, .int .i64 0, .int .i64 0]) hh rfl)
  have HX2 := hid ((Up.refl w2).alloc (.cells #[.int .i64 0, .int .i64 0, .int .i64 0] 36))
  have hh' := hid hh
  clear hh
  cases hlg : lgN P Q m p with
  | none =>
    have HL := hid (fun w' (hU : Up w w') => Log_none P Q G m p w' (HT.out.up hU) HGv.out HQn.out (gn_el HGm.out) (gn_ne HGm.out) (gn_el HGp.out) (lgN_none hlg))
    have h3 : ((0 : Int), (0 : Int), (0 : Int)) = (rs, ru, rv) := by rw [← HR3.out]; exact (ufT_none rfl HQb.out (facO_none hlg)).symm
    simp only [Prod.mk.injEq] at h3
    obtain ⟨rfl, rfl, rfl⟩ := h3
    obtain rfl : 7 = T := by rw [← HTt.out]; exact (ufE_none rfl HQb.out (facO_none hlg)).symm
    clear HR3 HTt
    clear hlg HGm HGp HGv HPr
    go_wp2_with fail
    refine (HL.out _ (HU2.out.trans HX2.out)).mono ?_
    rintro e w3 ⟨rfl, hU3⟩
    have HX3 := hid (HX2.out.trans hU3)
    have HH3 := hid (HH2.out.up hU3)
    clear hU3 HX2 HH2
    rw [hh'.out]
    have e0 := HH3.out.val (i := 0) rfl
    have e1 := HH3.out.thawed 0
    have HX4 := hid (HX3.out.setCell (a := ⟨h, 0, none⟩) l2h (.int .i64 0))
    obtain ⟨w4, hw4⟩ : ∃ w4, w3.setCell ⟨h, 0, none⟩ (.int .i64 0) = w4 := ⟨_, rfl⟩
    rw [hw4] at HX4
    have HW4 := hid hw4
    clear hw4
    have v0 := (HR2.out.up HX4.out).val (i := 0) rfl
    have v1 := (HR2.out.up HX4.out).val (i := 1) rfl
    have v2 := (HR2.out.up HX4.out).val (i := 2) rfl
    have y0 := (HR2.out.up HX4.out).thawed 0
    have y1 := (HR2.out.up HX4.out).thawed 1
    have y2 := (HR2.out.up HX4.out).thawed 2
    go_wp2_with (rw [HW4.out])
    refine bodyPost_ret (v := .tuple #[.agg #[.int .i64 0, .int .i64 0, .int .i64 0], .int .i64 7]) (results_row_tmp Tryz.results5 _ _ o5 36 _ (0, 0) _ (by rfl) (blk_three (HR2.out.up HX4.out) _ _ _) Tryz.underlying36 rfl (by kernel_rfl)) rfl ⟨rfl, (((HU2.out.trans HX4.out).setCell (a := ⟨o5, 0, none⟩) hlw _).setCell (a := ⟨o5, 1, none⟩) hlw _).setCell (a := ⟨o5, 2, none⟩) hlw _⟩
  | some n =>
    obtain ⟨hn1, hn2⟩ := lgN_some hlg
    have HL := hid (fun w' (hU : Up w w') => Log_ok P Q G m p n w' (HT.out.up hU) HGv.out HQn.out (gn_el HGm.out) (gn_ne HGm.out) (gn_el HGp.out) hn1 hn2.symm (fun i hi h => pw_inj (by have := (gv_iff.1 HGv.out).P4; omega) HPr.out (gn_el HGm.out) (gn_ne HGm.out) hi hn1 (h.trans hn2.symm)))
    have Hlg := hid hlg
    have N4 := hid (fun w' => N4.out n w')
    clear hlg hn1 hn2 HGm HGp HGv HPr
    go_wp2_with fail
    refine (HL.out _ (HU2.out.trans HX2.out)).mono ?_
    rintro e w3 ⟨rfl, hU3⟩
    have HX3 := hid (HX2.out.trans hU3)
    have HH3 := hid (HH2.out.up hU3)
    clear hU3 HX2 HH2 lc0 lc1 lc2 lc3 lc4 lc5 lb0 lb1 lb2 lb3 lb4 lb5 t0 t2
    rw [hh'.out]
    have e0 := HH3.out.val (i := 0) rfl
    have e1 := HH3.out.thawed 0
    have HX4 := hid (HX3.out.setCell (a := ⟨h, 0, none⟩) l2h (.int .i64 n))
    have HH4 : Hid (Blk (w3.setCell ⟨h, 0, none⟩ (.int .i64 n)) h 36 #[.int .i64 n, .int .i64 0, .int .i64 0]) := hid (HH3.out.wrote 0 _)
    obtain ⟨w4, hw4⟩ : ∃ w4, w3.setCell ⟨h, 0, none⟩ (.int .i64 n) = w4 := ⟨_, rfl⟩
    rw [hw4] at HX4 HH4
    have HW4 := hid hw4
    clear hw4 HX3 HH3
    obtain ⟨d0, d1', d2⟩ := HG2.out.up HX4.out
    obtain ⟨⟨lb0, lb1, lb2⟩, lb3, lb4, lb5⟩ := HV2.out.up HX4.out
    go_wp2_with (rw [HW4.out])
    refine (N1.out _).mono ?_
    rintro e w5 ⟨rfl, hU5⟩
    have HX5 := hid (HX4.out.trans hU5)
    have HH5 := hid (HH4.out.up hU5)
    clear hU5 HX4 HH4 HW4 e0 e1 d0 d1' d2 lb0 lb1 lb2 lb3 lb4 lb5
    have e0 := HH5.out.val (i := 1) rfl
    have e1 := HH5.out.thawed 1
    have HX6 := hid (HX5.out.setCell (a := ⟨h, 1, none⟩) l2h (.int .i64 U))
    have HH6 : Hid (Blk (w5.setCell ⟨h, 1, none⟩ (.int .i64 U)) h 36 #[.int .i64 n, .int .i64 U, .int .i64 0]) := hid (HH5.out.wrote 1 _)
    obtain ⟨w6, hw6⟩ : ∃ w6, w5.setCell ⟨h, 1, none⟩ (.int .i64 U) = w6 := ⟨_, rfl⟩
    rw [hw6] at HX6 HH6
    have HW6 := hid hw6
    clear hw6 HX5 HH5
    go_wp2_with (rw [HW6.out])
    try rw [HW6.out]
    clear HW6 e0 e1
    refine region_E (fun u => Up w6 u) 11 (by kernel_rfl) (Up.refl w6).drew fun hS => ?_
    generalize w6.drew = u0 at *
    refine anyE_take (i := 0) (v := ?_) 69 rfl rfl (by kernel_rfl) (by kernel_rfl) (by decide) (fun _ _ _ h => h) (by kernel_rfl) (by kernel_rfl) (.inl ⟨by rfl, fun u hu => ?_⟩) hS ?_
    rotate_left
    · (obtain ⟨z0, z1, z2⟩ := HG2.out.up (HX6.out.trans hu); obtain ⟨⟨z3, z4, z5⟩, z6, z7, z8⟩ := HV2.out.up (HX6.out.trans hu); have z9 := (HS2.out.up (HX6.out.trans hu)).val (i := 3) rfl; have z10 := (HH6.out.up hu).val (i := 1) rfl; go_simp; first | done | with_reducible rfl)
    try simp only [Act.put, List.setIfInBounds_toArray, List.set_cons_zero, List.set_cons_succ]
    refine anyE_take (i := 1) (v := ?_) 70 rfl rfl (by kernel_rfl) (by kernel_rfl) (by decide) (fun _ _ _ h => h) (by kernel_rfl) (by kernel_rfl) (.inl ⟨by rfl, fun u hu => ?_⟩) hS ?_
    rotate_left
    · (go_simp; first | done | with_reducible rfl)
    try simp only [Act.put, List.setIfInBounds_toArray, List.set_cons_zero, List.set_cons_succ]
    refine anyE_take (i := 2) (v := ?_) 71 rfl rfl (by kernel_rfl) (by kernel_rfl) (by decide) (fun _ _ _ h => h) (by kernel_rfl) (by kernel_rfl) (.inl ⟨by rfl, fun u hu => ?_⟩) hS ?_
    rotate_left
    · (obtain ⟨z0, z1, z2⟩ := HG2.out.up (HX6.out.trans hu); obtain ⟨⟨z3, z4, z5⟩, z6, z7, z8⟩ := HV2.out.up (HX6.out.trans hu); have z9 := (HS2.out.up (HX6.out.trans hu)).val (i := 3) rfl; have z10 := (HH6.out.up hu).val (i := 1) rfl; go_simp; first | done | with_reducible rfl)
    try simp only [Act.put, List.setIfInBounds_toArray, List.set_cons_zero, List.set_cons_succ]
    refine anyE_take (i := 3) (v := ?_) 72 rfl rfl (by kernel_rfl) (by kernel_rfl) (by decide) (fun _ _ _ h => h) (by kernel_rfl) (by kernel_rfl) (.inl ⟨by rfl, fun u hu => ?_⟩) hS ?_
    rotate_left
    · (obtain ⟨z0, z1, z2⟩ := HG2.out.up (HX6.out.trans hu); obtain ⟨⟨z3, z4, z5⟩, z6, z7, z8⟩ := HV2.out.up (HX6.out.trans hu); have z9 := (HS2.out.up (HX6.out.trans hu)).val (i := 3) rfl; have z10 := (HH6.out.up hu).val (i := 1) rfl; go_simp; first | done | with_reducible rfl)
    try simp only [Act.put, List.setIfInBounds_toArray, List.set_cons_zero, List.set_cons_succ]
    refine anyE_take (i := 4) (v := ?_) 73 rfl rfl (by kernel_rfl) (by kernel_rfl) (by decide) (fun _ _ _ h => h) (by kernel_rfl) (by kernel_rfl) (.inl ⟨by rfl, fun u hu => ?_⟩) hS ?_
    rotate_left
    · (go_simp; first | done | with_reducible rfl)
    try simp only [Act.put, List.setIfInBounds_toArray, List.set_cons_zero, List.set_cons_succ]
    refine anyE_take (i := 5) (v := ?_) 74 rfl rfl (by kernel_rfl) (by kernel_rfl) (by decide) (fun _ _ _ h => h) (by kernel_rfl) (by kernel_rfl) (.inl ⟨by rfl, fun u hu => ?_⟩) hS ?_
    rotate_left
    · (obtain ⟨z0, z1, z2⟩ := HG2.out.up (HX6.out.trans hu); obtain ⟨⟨z3, z4, z5⟩, z6, z7, z8⟩ := HV2.out.up (HX6.out.trans hu); have z9 := (HS2.out.up (HX6.out.trans hu)).val (i := 3) rfl; have z10 := (HH6.out.up hu).val (i := 1) rfl; go_simp; first | done | with_reducible rfl)
    try simp only [Act.put, List.setIfInBounds_toArray, List.set_cons_zero, List.set_cons_succ]
    refine anyE_take (i := 6) (v := ?_) 75 rfl rfl (by kernel_rfl) (by kernel_rfl) (by decide) (fun _ _ _ h => h) (by kernel_rfl) (by kernel_rfl) (.inl ⟨by rfl, fun u hu => ?_⟩) hS ?_
    rotate_left
    · (go_simp; first | done | with_reducible rfl)
    try simp only [Act.put, List.setIfInBounds_toArray, List.set_cons_zero, List.set_cons_succ]
    refine anyE_take (i := 7) (v := ?_) 76 rfl rfl (by kernel_rfl) (by kernel_rfl) (by decide) (fun _ _ _ h => h) (by kernel_rfl) (by kernel_rfl) (.inl ⟨by rfl, fun u hu => ?_⟩) hS ?_
    rotate_left
    · (obtain ⟨z0, z1, z2⟩ := HG2.out.up (HX6.out.trans hu); obtain ⟨⟨z3, z4, z5⟩, z6, z7, z8⟩ := HV2.out.up (HX6.out.trans hu); have z9 := (HS2.out.up (HX6.out.trans hu)).val (i := 3) rfl; have z10 := (HH6.out.up hu).val (i := 1) rfl; go_simp; first | done | with_reducible rfl)
    try simp only [Act.put, List.setIfInBounds_toArray, List.set_cons_zero, List.set_cons_succ]
    refine anyE_oneG (i := 8) rfl (by kernel_rfl) (by rfl) (fun K hK => ?_)
    go_simp
    refine (N2.out _).mono ?_
    rintro e u1 ⟨rfl, hup⟩
    try dsimp only
    have hS' := hS.trans hup
    refine hK.out _ _ (.inr hS') ?_
    clear hK hS hup
    have hS := hS'
    clear hS'
    try simp only [Act.put, List.setIfInBounds_toArray, List.set_cons_zero, List.set_cons_succ]
    refine anyE_oneG (i := 9) rfl (by kernel_rfl) (by rfl) (fun K hK => ?_)
    go_simp
    refine (N3.out _).mono ?_
    rintro e u2 ⟨rfl, hup⟩
    try dsimp only
    have hS' := hS.trans hup
    refine hK.out _ _ (.inr hS') ?_
    clear hK hS hup
    have hS := hS'
    clear hS'
    try simp only [Act.put, List.setIfInBounds_toArray, List.set_cons_zero, List.set_cons_succ]
    refine anyE_take (i := 10) (v := ?_) 79 rfl rfl (by kernel_rfl) (by kernel_rfl) (by decide) (fun _ _ _ h => h) (by kernel_rfl) (by kernel_rfl) (.inl ⟨by rfl, fun u hu => ?_⟩) hS ?_
    rotate_left
    · (go_simp; first | done | with_reducible rfl)
    try simp only [Act.put, List.setIfInBounds_toArray, List.set_cons_zero, List.set_cons_succ]
    refine anyE_oneG (i := 11) rfl (by kernel_rfl) (by rfl) (fun K hK => ?_)
    have k3 := (HH6.out.up hS).val (i := 2) rfl
    have y3 := (HH6.out.up hS).thawed 2
    go_simp
    refine hK.out _ _ (.inl rfl) ?_
    clear hK k3 y3
    try simp only [Act.put, List.setIfInBounds_toArray, List.set_cons_zero, List.set_cons_succ]
    refine anyE_done (by kernel_rfl) ?_ _
    have HX7 := hid ((HX6.out.trans hS).setCell (a := ⟨h, 2, none⟩) l2h (.int .i64 Y))
    have HH7 : Hid (Blk (u2.setCell ⟨h, 2, none⟩ (.int .i64 Y)) h 36 #[.int .i64 n, .int .i64 U, .int .i64 Y]) := hid ((HH6.out.up hS).wrote 2 _)
    generalize World.setCell _ ⟨h, 2, none⟩ _ = w7 at *
    clear hS HX6 HH6
    obtain ⟨z0, z1, z2⟩ := HG2.out.up HX7.out
    obtain ⟨⟨z3, z4, z5⟩, z6, z7, z8⟩ := HV2.out.up HX7.out
    have s0 := (HS2.out.up HX7.out).val (i := 0) rfl
    have s1 := (HS2.out.up HX7.out).val (i := 1) rfl
    have s2 := (HS2.out.up HX7.out).val (i := 2) rfl
    have s3 := (HS2.out.up HX7.out).val (i := 3) rfl
    have h0 := HH7.out.val (i := 0) rfl
    have h1 := HH7.out.val (i := 1) rfl
    have h2 := HH7.out.val (i := 2) rfl
    obtain ⟨b, hb⟩ : ∃ b, fitB P Q G m z x y c r n U Y p V sz sa sb sr = b := ⟨_, rfl⟩
    have HB := hid hb
    rw [hb] at N4
    clear hb
    go_wp2_with fail
    refine (N4.out _).mono ?_
    rintro e w8 ⟨rfl, hU8⟩
    have HX8 := hid (HX7.out.trans hU8)
    have HH8 := hid (HH7.out.up hU8)
    clear hU8 HX7 HH7 z0 z1 z2 z3 z4 z5 z6 z7 z8 s0 s1 s2 s3 h0 h1 h2
    have v0 := (HR2.out.up HX8.out).val (i := 0) rfl
    have v1 := (HR2.out.up HX8.out).val (i := 1) rfl
    have v2 := (HR2.out.up HX8.out).val (i := 2) rfl
    have y0 := (HR2.out.up HX8.out).thawed 0
    have y1 := (HR2.out.up HX8.out).thawed 1
    have y2 := (HR2.out.up HX8.out).thawed 2
    cases b
    · have h3 : ((0 : Int), (0 : Int), (0 : Int)) = (rs, ru, rv) := by rw [← HR3.out]; exact (ufT_none rfl HQb.out (facO_not Hlg.out HUu.out HYy.out HB.out)).symm
      simp only [Prod.mk.injEq] at h3
      obtain ⟨rfl, rfl, rfl⟩ := h3
      obtain rfl : 7 = T := by rw [← HTt.out]; exact (ufE_none rfl HQb.out (facO_not Hlg.out HUu.out HYy.out HB.out)).symm
      clear HR3 HTt
      clear HB Hlg
      go_wp2
      refine bodyPost_ret (v := .tuple #[.agg #[.int .i64 0, .int .i64 0, .int .i64 0], .int .i64 7]) (results_row_tmp Tryz.results5 _ _ o5 36 _ (0, 0) _ (by rfl) (blk_three (HR2.out.up HX8.out) _ _ _) Tryz.underlying36 rfl (by kernel_rfl)) rfl ⟨rfl, (((HU2.out.trans HX8.out).setCell (a := ⟨o5, 0, none⟩) hlw _).setCell (a := ⟨o5, 1, none⟩) hlw _).setCell (a := ⟨o5, 2, none⟩) hlw _⟩
    · have h3 : ((n : Int), U, Y) = (rs, ru, rv) := by rw [← HR3.out]; exact (ufT_some rfl HQb.out (facO_fit Hlg.out HUu.out HYy.out HB.out)).symm
      simp only [Prod.mk.injEq] at h3
      obtain ⟨rfl, rfl, rfl⟩ := h3
      obtain rfl : 0 = T := by rw [← HTt.out]; exact (ufE_some rfl HQb.out (facO_fit Hlg.out HUu.out HYy.out HB.out)).symm
      clear HB Hlg HR3 HTt
      have h0 := HH8.out.val (i := 0) rfl
      have h1 := HH8.out.val (i := 1) rfl
      have h2 := HH8.out.val (i := 2) rfl
      go_wp2
      refine bodyPost_ret (v := .tuple #[.agg #[.int .i64 n, .int .i64 U, .int .i64 Y], .int .i64 0]) (results_row_tmp Tryz.results5 _ _ o5 36 _ (0, 0) _ (by rfl) (blk_three (HR2.out.up HX8.out) _ _ _) Tryz.underlying36 rfl (by kernel_rfl)) rfl ⟨rfl, (((HU2.out.trans HX8.out).setCell (a := ⟨o5, 0, none⟩) hlw _).setCell (a := ⟨o5, 1, none⟩) hlw _).setCell (a := ⟨o5, 2, none⟩) hlw _⟩
end Go.Proofs.YtdbhleinhpiohaaGreatDoor
namespace Go.Proofs.YtdbhleinhpiohaaGreatDoor
open Go.RowKit Go.Sp
set_option maxHeartbeats 4000000
set_option maxRecDepth 20000

theorem rCount_any (P Q G A B C m z x y c r p : Int) (root : Nat → Int) (sz sa sb sr : Int) (w : World) (hR : Byt root) (g1 : P < 2305843009213693952) (g2 : 2 ≤ P) (g3 : 1 ≤ Q) (g4 : Q < 2305843009213693952) (g5 : 0 ≤ G) (g6 : G < P) (m0 : 0 ≤ m) (m1 : m < P) (z0 : 0 ≤ z) (z1 : z < P) (a0 : 0 ≤ x) (a1 : x < P) (b0 : 0 ≤ y) (b1 : y < P) (c0 : 0 ≤ c) (c1 : c < Q) (r0 : 0 ≤ r) (r1 : r < Q) (p0 : 0 ≤ p) (p1 : p < P) (s0 : 0 ≤ sr) (s1 : sr < Q) (hQ : Q ≤ 113) :
    Calls Tryz.prog 8 #[bas P Q G A B C, vw m z x y c r, .int .i64 p, hashV root, sgn sz sa sb sr] w fun e w' => e = .returned (.int .i64 (cntF P Q G m z x y c r p (coinC P Q G A B C p root sz sa sb) sz sa sb sr : Nat)) ∧ Up w w' := by
  obtain ⟨R, hRr⟩ : ∃ R : Nat, cntF P Q G m z x y c r p (coinC P Q G A B C p root sz sa sb) sz sa sb sr = R := ⟨_, rfl⟩
  rw [hRr]
  obtain ⟨K, hK⟩ : ∃ K : Nat, (Q - 1).toNat = K := ⟨_, rfl⟩
  have hKQ : Q = (K : Int) + 1 := by omega
  have hK112 : K ≤ 112 := by omega
  have M1 := hid (fun (i : Nat) (hi : i < K) w' => rgPower_sc P Q G m ((i : Int) + 1) w' m0 m1 (by omega) (by omega) g1 g4)
  have HZ := hid (fun (i : Nat) (h : p ≠ pwi P m ((i : Int) + 1)) => (cR_none (fun j _ => by unfold fitN; exact fitB_p h) : cR (fitN P Q G m z x y c r p (coinC P Q G A B C p root sz sa sb) sz sa sb sr i) K = 0))
  obtain ⟨J, hJ⟩ : ∃ J : Nat → Int, (fun j : Nat => r * ((j : Int) + 1) % Q) = J := ⟨_, rfl⟩
  have hJ0 : ∀ j, 0 ≤ J j ∧ J j < Q := fun j => by rw [← hJ]; exact ⟨Int.emod_nonneg _ (by omega), Int.emod_lt_of_pos _ (by omega)⟩
  have M3 := hid (fun (j : Nat) (hj : j < K) w' => show Calls _ _ #[_, .int .i64 r, .int .i64 ((j : Int) + 1)] _ (fun e w'' => e = .returned (.int .i64 (J j)) ∧ Up w' w'') by rw [← hJ]; exact r26times_ok P Q G A B C r ((j : Int) + 1) w' r0 r1 (by omega) (by omega) g4)
  have M4 := hid (fun (j : Nat) w' => show Calls _ _ _ _ (fun e w'' => e = .returned (.int .i64 ((sr - J j) % Q)) ∧ Up w' w'') from (rReduce_ok (sr - J j) Q w' (by have := hJ0 j; omega) (by have := hJ0 j; omega) g3 g4).mono (fun e w'' h => ⟨h.1, h.2 ▸ Up.refl _⟩))
  have M5 := hid (fun (i j : Nat) w' => show Calls _ _ #[bas P Q G A B C, vw m z x y c r, .agg #[.int .i64 ((i : Int) + 1), .int .i64 ((j : Int) + 1), .int .i64 ((sr - J j) % Q)], .int .i64 p, hashV root, sgn sz sa sb sr] _ (fun e w'' => e = .returned (.bool (fitN P Q G m z x y c r p (coinC P Q G A B C p root sz sa sb) sz sa sb sr i j)) ∧ Up w' w'') by rw [← hJ]; exact r26Fits_any P Q G A B C m z x y c r ((i : Int) + 1) ((j : Int) + 1) ((sr - r * ((j : Int) + 1) % Q) % Q) p root sz sa sb sr w' hR g1 g2 g3 g4 g5 g6 m0 m1 z0 z1 a0 a1 b0 b1 c0 c1 r0 r1 p0 p1)
  have HW := hid (fun (j : Nat) => show IntKind.i64.wrap (sr - J j) = sr - J j by have := hJ0 j; rw [IntKind.wrap_i64]; omega)
  unfold cntF at hRr
  rw [hK] at hRr
  generalize fitN P Q G m z x y c r p (coinC P Q G A B C p root sz sa sb) sz sa sb sr = F at *
  have HRr := hid hRr
  obtain ⟨W, hW⟩ : ∃ W : Nat → Int, (fun i : Nat => pwi P m ((i : Int) + 1)) = W := ⟨_, rfl⟩
  have HZ : Hid (∀ i : Nat, p ≠ W i → cR (F i) K = 0) := hid (fun i h => HZ.out i (by rw [← hW] at h; exact h))
  have M1 := hid (fun (i : Nat) (hi : i < K) w' => show Calls _ _ #[_, _, .int .i64 ((i : Int) + 1)] _ (fun e w'' => e = .returned (.int .i64 (W i)) ∧ Up w' w'') by rw [← hW]; exact M1.out i hi w')
  subst hKQ
  obtain ⟨cs, hcs⟩ : ∃ cs, arrK .u8 root 32 = cs := ⟨_, rfl⟩
  have HCz : Hid ((Tryz.prog.info? 31).map (·.size) = some cs.size) := hid (by rw [← hcs, arrK_size]; kernel_rfl)
  unfold hashV at M5 ⊢
  rw [hcs] at M5 ⊢
  obtain ⟨o, ho⟩ : ∃ o, w.heap.size = o := ⟨_, rfl⟩
  have HO := hid ho
  obtain ⟨o1, ho1⟩ : ∃ o1, o + 1 = o1 := ⟨_, rfl⟩
  have HO1 := hid ho1
  obtain ⟨o2, ho2⟩ : ∃ o2, o1 + 1 = o2 := ⟨_, rfl⟩
  have HO2 := hid ho2
  obtain ⟨o3, ho3⟩ : ∃ o3, o2 + 1 = o3 := ⟨_, rfl⟩
  have HO3 := hid ho3
  clear hJ hW hJ0 hRr hK g1 g2 g3 g4 g5 g6 m0 m1 z0 z1 a0 a1 b0 b1 c0 c1 r0 r1 p0 p1 s0 s1 hR hcs ho
  go_enter Tryz.func8, Tryz.ntmps8
  go_wp2_with fail
  have HA0 : Hid (BasAt ((((w.alloc (.cells #[.int .i64 P, .int .i64 ((K : Int) + 1), .int .i64 G, .int .i64 A, .int .i64 B, .int .i64 C] 25)).alloc (.cells #[.int .i64 m, .int .i64 z, .int .i64 x, .int .i64 y, .int .i64 c, .int .i64 r] 29)).alloc (.cells cs 31)).alloc (.cells #[.int .i64 sz, .int .i64 sa, .int .i64 sb, .int .i64 sr] 33)) o P ((K : Int) + 1) G A B C) := hid ((nums_six (w := w) (t := 25) HO.out).up ((((Up.refl _).alloc _).alloc _).alloc _))
  have HV0 : Hid (BasAt ((((w.alloc (.cells #[.int .i64 P, .int .i64 ((K : Int) + 1), .int .i64 G, .int .i64 A, .int .i64 B, .int .i64 C] 25)).alloc (.cells #[.int .i64 m, .int .i64 z, .int .i64 x, .int .i64 y, .int .i64 c, .int .i64 r] 29)).alloc (.cells cs 31)).alloc (.cells #[.int .i64 sz, .int .i64 sa, .int .i64 sb, .int .i64 sr] 33)) o1 m z x y c r) := hid ((nums_six (r := o1) (t := 29) (by have := HO.out; have := HO1.out; have := HO2.out; have := HO3.out; simp; omega)).up (((Up.refl _).alloc _).alloc _))
  have HC0 : Hid (Blk ((((w.alloc (.cells #[.int .i64 P, .int .i64 ((K : Int) + 1), .int .i64 G, .int .i64 A, .int .i64 B, .int .i64 C] 25)).alloc (.cells #[.int .i64 m, .int .i64 z, .int .i64 x, .int .i64 y, .int .i64 c, .int .i64 r] 29)).alloc (.cells cs 31)).alloc (.cells #[.int .i64 sz, .int .i64 sa, .int .i64 sb, .int .i64 sr] 33)) o2 31 cs) := hid ((Blk.new (g := o2) (t := 31) (by have := HO.out; have := HO1.out; have := HO2.out; have := HO3.out; simp; omega) rfl).up ((Up.refl _).alloc _))
  have HS0 : Hid (Blk ((((w.alloc (.cells #[.int .i64 P, .int .i64 ((K : Int) + 1), .int .i64 G, .int .i64 A, .int .i64 B, .int .i64 C] 25)).alloc (.cells #[.int .i64 m, .int .i64 z, .int .i64 x, .int .i64 y, .int .i64 c, .int .i64 r] 29)).alloc (.cells cs 31)).alloc (.cells #[.int .i64 sz, .int .i64 sa, .int .i64 sb, .int .i64 sr] 33)) o3 33 #[.int .i64 sz, .int .i64 sa, .int .i64 sb, .int .i64 sr]) := hid (Blk.new (g := o3) (t := 33) (by have := HO.out; have := HO1.out; have := HO2.out; have := HO3.out; simp; omega) rfl)
  have HU0 : Hid (Up w ((((w.alloc (.cells #[.int .i64 P, .int .i64 ((K : Int) + 1), .int .i64 G, .int .i64 A, .int .i64 B, .int .i64 C] 25)).alloc (.cells #[.int .i64 m, .int .i64 z, .int .i64 x, .int .i64 y, .int .i64 c, .int .i64 r] 29)).alloc (.cells cs 31)).alloc (.cells #[.int .i64 sz, .int .i64 sa, .int .i64 sb, .int .i64 sr] 33))) := hid ((((Up.refl w).alloc _).alloc _).alloc _ |>.alloc _)
  have h12 : o + 1 + 1 = o2 := by omega
  have h123 : o + 1 + 1 + 1 = o3 := by omega
  rw [HO.out, h123, h12, ho1]
  clear h12 h123 ho1 ho2 ho3
  generalize ((((w.alloc (.cells #[.int .i64 P, .int .i64 ((K : Int) + 1), .int .i64 G, .int .i64 A, .int .i64 B, .int .i64 C] 25)).alloc (.cells #[.int .i64 m, .int .i64 z, .int .i64 x, .int .i64 y, .int .i64 c, .int .i64 r] 29)).alloc (.cells cs 31)).alloc (.cells #[.int .i64 sz, .int .i64 sa, .int .i64 sb, .int .i64 sr] 33)) = w0 at *
  go_loopw [12, 13] (fun vn vi wr => ∃ i : Nat, i ≤ K ∧ vn = .int .i64 (cS (fun i => cR (F i) K) i : Nat) ∧ vi = .int .i64 ((i : Int) + 1) ∧ Hid (Up w0 wr)) (fun _ vi _ => K + 1 - (intOf vi).toNat)
  case atStart => exact ⟨0, by omega, rfl, rfl, hid (Up.refl _)⟩
  case round =>
    obtain ⟨i, hi, rfl, rfl, HUr⟩ := hrel
    have lw : w0.heap.size ≤ wr.heap.size := HUr.out.size
    obtain ⟨⟨lc0, lc1, lc2⟩, lc3, lc4, lc5⟩ := HA0.out.up HUr.out
    obtain ⟨⟨lb0, lb1, lb2⟩, lb3, lb4, lb5⟩ := HV0.out.up HUr.out
    have hcs := cS_le2 (g := fun i => cR (F i) K) (B := K) (fun i => cR_le _ _) hi
    have hcm : K * K ≤ 112 * 112 := Nat.mul_le_mul hK112 hK112
    obtain ⟨N, hN⟩ : ∃ N, cS (fun i => cR (F i) K) i = N := ⟨_, rfl⟩
    have HN := hid hN
    rw [hN] at hcs ⊢
    clear hN
    by_cases hlt : i < K
    · have hi1 : (i : Int) + 1 < K + 1 := by omega
      have d0 : decide ((i : Int) + 1 < (K : Int) + 1) = true := by simpa using hi1
      have N1 := hid (fun w' => M1.out i hlt w')
      have NZ := hid (HZ.out i)
      generalize W i = E at *
      go_wp2_with fail
      refine (N1.out _).mono ?_
      rintro e w1 ⟨rfl, hU1⟩
      have HU1 := hid (HUr.out.trans hU1)
      clear hU1 HUr lc0 lc1 lc2 lc3 lc4 lc5 lb0 lb1 lb2 lb3 lb4 lb5 lw
      by_cases hE : E = p
      case neg =>
        have d1 : (E != p) = true := by simpa using hE
        have hz := NZ.out (fun h => hE h.symm)
        clear hE
        go_wp2_with fail
        go_roundw
        case rel => exact ⟨i + 1, by omega, by rw [cS, HN.out, hz]; rfl, by go_num, HU1⟩
        case measure => simp [intOf]; omega
      have d1 : (E != p) = false := by simpa using hE
      clear hE NZ
      go_wp2_with fail
      go_loopw [12, 14] (fun vn vj wi => ∃ j : Nat, j ≤ K ∧ vn = .int .i64 (N + cR (F i) j : Nat) ∧ vj = .int .i64 ((j : Int) + 1) ∧ Hid (Up w0 wi)) (fun _ vj _ => K + 1 - (intOf vj).toNat)
      case atStart => exact ⟨0, by omega, rfl, rfl, HU1⟩
      case round =>
        clear HU1
        obtain ⟨j, hj, rfl, rfl, HUr⟩ := hrel
        have hcr := cR_le (F i) j
        obtain ⟨M, hM⟩ : ∃ M, cR (F i) j = M := ⟨_, rfl⟩
        have HM := hid hM
        rw [hM] at hcr ⊢
        clear hM
        by_cases hjt : j < K
        · have hj1 : (j : Int) + 1 < K + 1 := by omega
          have d2 : decide ((j : Int) + 1 < (K : Int) + 1) = true := by simpa using hj1
          have N3 := hid (fun w' => M3.out j hjt w')
          have N4 := hid (fun w' => M4.out j w')
          have N5 := hid (fun w' => M5.out i j w')
          have HT := hid (fun (h : F i j = true) => cR_true h)
          have HFa := hid (fun (h : F i j = false) => cR_false h)
          have hw := HW.out j
          generalize F i j = b at *
          generalize J j = X at *
          generalize (sr - X) % ((K : Int) + 1) = Y at *
          go_wp2_with fail
          go_cut [15] from 37 to 49 (fun va w' => ∃ g, va = .pointer (some ⟨g, 0, none⟩) ∧ Hid (Up wr w') ∧ Hid (Blk w' g 36 #[.int .i64 ((i : Int) + 1), .int .i64 ((j : Int) + 1), .int .i64 Y]))
          case first =>
            refine region_E (fun u => Up wr u) 15 (by kernel_rfl) (Up.refl wr).drew fun hS => ?_
            generalize wr.drew = u0 at *
            refine anyE_takeA (i := 0) (v := ?_) 37 rfl rfl (by kernel_rfl) (by decide) (fun _ _ _ h => h) (by kernel_rfl) (by kernel_rfl) (.inl ⟨by rfl, fun u hu => ?_⟩) hS ?_
            rotate_left
            · (go_simp; first | done | with_reducible rfl)
            try simp only [Act.put, List.setIfInBounds_toArray, List.set_cons_zero, List.set_cons_succ]
            refine anyE_takeA (i := 1) (v := ?_) 38 rfl rfl (by kernel_rfl) (by decide) (fun _ _ _ h => h) (by kernel_rfl) (by kernel_rfl) (.inl ⟨by rfl, fun u hu => ?_⟩) hS ?_
            rotate_left
            · (go_simp; first | done | with_reducible rfl)
            try simp only [Act.put, List.setIfInBounds_toArray, List.set_cons_zero, List.set_cons_succ]
            refine anyE_takeA (i := 2) (v := ?_) 39 rfl rfl (by kernel_rfl) (by decide) (fun _ _ _ h => h) (by kernel_rfl) (by kernel_rfl) (.inl ⟨by rfl, fun u hu => ?_⟩) hS ?_
            rotate_left
            · (obtain ⟨⟨z0, z1, z2⟩, z3, z4, z5⟩ := HA0.out.up (HUr.out.trans hu); obtain ⟨⟨y0, y1, y2⟩, y3, y4, y5⟩ := HV0.out.up (HUr.out.trans hu); have x9 := (HS0.out.up (HUr.out.trans hu)).val (i := 3) rfl; go_simp; first | done | with_reducible rfl)
            try simp only [Act.put, List.setIfInBounds_toArray, List.set_cons_zero, List.set_cons_succ]
            refine anyE_takeA (i := 3) (v := ?_) 40 rfl rfl (by kernel_rfl) (by decide) (fun _ _ _ h => h) (by kernel_rfl) (by kernel_rfl) (.inl ⟨by rfl, fun u hu => ?_⟩) hS ?_
            rotate_left
            · (obtain ⟨⟨z0, z1, z2⟩, z3, z4, z5⟩ := HA0.out.up (HUr.out.trans hu); obtain ⟨⟨y0, y1, y2⟩, y3, y4, y5⟩ := HV0.out.up (HUr.out.trans hu); have x9 := (HS0.out.up (HUr.out.trans hu)).val (i := 3) rfl; go_simp; first | done | with_reducible rfl)
            try simp only [Act.put, List.setIfInBounds_toArray, List.set_cons_zero, List.set_cons_succ]
            refine anyE_takeA (i := 4) (v := ?_) 41 rfl rfl (by kernel_rfl) (by decide) (fun _ _ _ h => h) (by kernel_rfl) (by kernel_rfl) (.inl ⟨by rfl, fun u hu => ?_⟩) hS ?_
            rotate_left
            · (obtain ⟨⟨z0, z1, z2⟩, z3, z4, z5⟩ := HA0.out.up (HUr.out.trans hu); obtain ⟨⟨y0, y1, y2⟩, y3, y4, y5⟩ := HV0.out.up (HUr.out.trans hu); have x9 := (HS0.out.up (HUr.out.trans hu)).val (i := 3) rfl; go_simp; first | done | with_reducible rfl)
            try simp only [Act.put, List.setIfInBounds_toArray, List.set_cons_zero, List.set_cons_succ]
            refine anyE_takeA (i := 5) (v := ?_) 42 rfl rfl (by kernel_rfl) (by decide) (fun _ _ _ h => h) (by kernel_rfl) (by kernel_rfl) (.inl ⟨by rfl, fun u hu => ?_⟩) hS ?_
            rotate_left
            · (obtain ⟨⟨z0, z1, z2⟩, z3, z4, z5⟩ := HA0.out.up (HUr.out.trans hu); obtain ⟨⟨y0, y1, y2⟩, y3, y4, y5⟩ := HV0.out.up (HUr.out.trans hu); have x9 := (HS0.out.up (HUr.out.trans hu)).val (i := 3) rfl; go_simp; first | done | with_reducible rfl)
            try simp only [Act.put, List.setIfInBounds_toArray, List.set_cons_zero, List.set_cons_succ]
            refine anyE_takeA (i := 6) (v := ?_) 43 rfl rfl (by kernel_rfl) (by decide) (fun _ _ _ h => h) (by kernel_rfl) (by kernel_rfl) (.inl ⟨by rfl, fun u hu => ?_⟩) hS ?_
            rotate_left
            · (obtain ⟨⟨z0, z1, z2⟩, z3, z4, z5⟩ := HA0.out.up (HUr.out.trans hu); obtain ⟨⟨y0, y1, y2⟩, y3, y4, y5⟩ := HV0.out.up (HUr.out.trans hu); have x9 := (HS0.out.up (HUr.out.trans hu)).val (i := 3) rfl; go_simp; first | done | with_reducible rfl)
            try simp only [Act.put, List.setIfInBounds_toArray, List.set_cons_zero, List.set_cons_succ]
            refine anyE_takeA (i := 7) (v := ?_) 44 rfl rfl (by kernel_rfl) (by decide) (fun _ _ _ h => h) (by kernel_rfl) (by kernel_rfl) (.inl ⟨by rfl, fun u hu => ?_⟩) hS ?_
            rotate_left
            · (go_simp; first | done | with_reducible rfl)
            try simp only [Act.put, List.setIfInBounds_toArray, List.set_cons_zero, List.set_cons_succ]
            refine anyE_takeA (i := 10) (v := ?_) 47 rfl rfl (by kernel_rfl) (by decide) (fun _ _ _ h => h) (by kernel_rfl) (by kernel_rfl) (.inl ⟨by rfl, fun u hu => ?_⟩) hS ?_
            rotate_left
            · (go_simp; first | done | with_reducible rfl)
            try simp only [Act.put, List.setIfInBounds_toArray, List.set_cons_zero, List.set_cons_succ]
            refine anyE_two 8 13 (by kernel_rfl) ⟨_, rfl, rfl, fun K hK => ?_⟩ ⟨_, rfl, rfl, fun K hK => ?_⟩
            · go_simp
              refine (N3.out _).mono ?_
              rintro e u1 ⟨rfl, hup⟩
              try dsimp only
              have hS' := hS.trans hup
              refine hK.out _ _ (.inr hS') ?_
              clear hK hS hup
              have hS := hS'
              clear hS'
              try simp only [Act.put, List.setIfInBounds_toArray, List.set_cons_zero, List.set_cons_succ]
              refine anyE_takeA (i := 9) (v := ?_) 46 rfl rfl (by kernel_rfl) (by decide) (fun _ _ _ h => h) (by kernel_rfl) (by kernel_rfl) (.inl ⟨by rfl, fun u hu => ?_⟩) hS ?_
              rotate_left
              · (go_simp; first | done | with_reducible rfl)
              try simp only [Act.put, List.setIfInBounds_toArray, List.set_cons_zero, List.set_cons_succ]
              refine anyE_two 11 13 (by kernel_rfl) ⟨_, rfl, rfl, fun K hK => ?_⟩ ⟨_, rfl, rfl, fun K hK => ?_⟩
              · go_simp
                refine (N4.out _).mono ?_
                rintro e u2 ⟨rfl, hup⟩
                try dsimp only
                have hS' := hS.trans hup
                refine hK.out _ _ (.inr hS') ?_
                clear hK hS hup
                have hS := hS'
                clear hS'
                try simp only [Act.put, List.setIfInBounds_toArray, List.set_cons_zero, List.set_cons_succ]
                refine anyE_takeA (i := 12) (v := ?_) 49 rfl rfl (by kernel_rfl) (by decide) (fun _ _ _ h => h) (by kernel_rfl) (by kernel_rfl) (.inl ⟨by rfl, fun u hu => ?_⟩) hS ?_
                rotate_left
                · (go_simp; first | done | with_reducible rfl)
                try simp only [Act.put, List.setIfInBounds_toArray, List.set_cons_zero, List.set_cons_succ]
                refine anyE_oneG (i := 13) rfl (by kernel_rfl) (by rfl) (fun K hK => ?_)
                go_simp
                obtain ⟨g, hg⟩ : ∃ g, u2.heap.size = g := ⟨_, rfl⟩
                generalize hWz : World.alloc u2 _ = u3
                have hZ : Blk u3 g 36 #[.int .i64 0, .int .i64 0, .int .i64 0] := by rw [← hWz]; exact Blk.new hg rfl
                have hup : Up u2 u3 := by rw [← hWz]; exact (Up.refl _).alloc _
                have hgg : wr.heap.size ≤ g := by have := hS.size; omega
                try rw [hg]
                have hS' := hS.trans hup
                refine hK.out _ _ (.inr hS') ?_
                clear hK hWz hS hup hg
                have hS := hS'
                clear hS'
                try simp only [Act.put, List.setIfInBounds_toArray, List.set_cons_zero, List.set_cons_succ]
                refine anyE_oneG (i := 14) rfl (by kernel_rfl) (by rfl) (fun K hK => ?_)
                refine op_store_row 36 _ _ rfl rfl g #[.int .i64 ((i : Int) + 1), .int .i64 ((j : Int) + 1), .int .i64 Y] rfl rfl 36 #[.int .i64 0, .int .i64 0, .int .i64 0] hZ (by kernel_rfl) rfl (by first | kernel_rfl | simp [Value.oneCell']) ?_
                have hZ := hZ.row #[.int .i64 ((i : Int) + 1), .int .i64 ((j : Int) + 1), .int .i64 Y]
                have hS' := hS.setRow hgg #[.int .i64 ((i : Int) + 1), .int .i64 ((j : Int) + 1), .int .i64 Y]
                refine hK.out _ _ (.inr hS') ?_
                clear hK hS
                have hS := hS'
                clear hS'
                generalize World.setRow _ g _ = u4 at *
                try simp only [Act.put, List.setIfInBounds_toArray, List.set_cons_zero, List.set_cons_succ]
                refine anyE_done (by kernel_rfl) ?_ _
                go_wp2_with fail
                go_meet
                exact ⟨g, rfl, hid hS, hid hZ⟩
              · go_simp
                obtain ⟨g, hg⟩ : ∃ g, u1.heap.size = g := ⟨_, rfl⟩
                generalize hWz : World.alloc u1 _ = u2
                have hZ : Blk u2 g 36 #[.int .i64 0, .int .i64 0, .int .i64 0] := by rw [← hWz]; exact Blk.new hg rfl
                have hup : Up u1 u2 := by rw [← hWz]; exact (Up.refl _).alloc _
                have hgg : wr.heap.size ≤ g := by have := hS.size; omega
                try rw [hg]
                have hS' := hS.trans hup
                refine hK.out _ _ (.inr hS') ?_
                clear hK hWz hS hup hg
                have hS := hS'
                clear hS'
                try simp only [Act.put, List.setIfInBounds_toArray, List.set_cons_zero, List.set_cons_succ]
                refine anyE_oneG (i := 11) rfl (by kernel_rfl) (by rfl) (fun K hK => ?_)
                go_simp
                refine (N4.out _).mono ?_
                rintro e u3 ⟨rfl, hup⟩
                try dsimp only
                have hS' := hS.trans hup
                refine hK.out _ _ (.inr hS') ?_
                have hZ := hZ.up hup
                clear hK hS hup
                have hS := hS'
                clear hS'
                try simp only [Act.put, List.setIfInBounds_toArray, List.set_cons_zero, List.set_cons_succ]
                refine anyE_takeA (i := 12) (v := ?_) 49 rfl rfl (by kernel_rfl) (by decide) (fun _ _ _ h => h) (by kernel_rfl) (by kernel_rfl) (.inl ⟨by rfl, fun u hu => ?_⟩) hS ?_
                rotate_left
                · (go_simp; first | done | with_reducible rfl)
                try simp only [Act.put, List.setIfInBounds_toArray, List.set_cons_zero, List.set_cons_succ]
                refine anyE_oneG (i := 14) rfl (by kernel_rfl) (by rfl) (fun K hK => ?_)
                refine op_store_row 36 _ _ rfl rfl g #[.int .i64 ((i : Int) + 1), .int .i64 ((j : Int) + 1), .int .i64 Y] rfl rfl 36 #[.int .i64 0, .int .i64 0, .int .i64 0] hZ (by kernel_rfl) rfl (by first | kernel_rfl | simp [Value.oneCell']) ?_
                have hZ := hZ.row #[.int .i64 ((i : Int) + 1), .int .i64 ((j : Int) + 1), .int .i64 Y]
                have hS' := hS.setRow hgg #[.int .i64 ((i : Int) + 1), .int .i64 ((j : Int) + 1), .int .i64 Y]
                refine hK.out _ _ (.inr hS') ?_
                clear hK hS
                have hS := hS'
                clear hS'
                generalize World.setRow _ g _ = u4 at *
                try simp only [Act.put, List.setIfInBounds_toArray, List.set_cons_zero, List.set_cons_succ]
                refine anyE_done (by kernel_rfl) ?_ _
                go_wp2_with fail
                go_meet
                exact ⟨g, rfl, hid hS, hid hZ⟩
            · go_simp
              obtain ⟨g, hg⟩ : ∃ g, u0.heap.size = g := ⟨_, rfl⟩
              generalize hWz : World.alloc u0 _ = u1
              have hZ : Blk u1 g 36 #[.int .i64 0, .int .i64 0, .int .i64 0] := by rw [← hWz]; exact Blk.new hg rfl
              have hup : Up u0 u1 := by rw [← hWz]; exact (Up.refl _).alloc _
              have hgg : wr.heap.size ≤ g := by have := hS.size; omega
              try rw [hg]
              have hS' := hS.trans hup
              refine hK.out _ _ (.inr hS') ?_
              clear hK hWz hS hup hg
              have hS := hS'
              clear hS'
              try simp only [Act.put, List.setIfInBounds_toArray, List.set_cons_zero, List.set_cons_succ]
              refine anyE_oneG (i := 8) rfl (by kernel_rfl) (by rfl) (fun K hK => ?_)
              go_simp
              refine (N3.out _).mono ?_
              rintro e u2 ⟨rfl, hup⟩
              try dsimp only
              have hS' := hS.trans hup
              refine hK.out _ _ (.inr hS') ?_
              have hZ := hZ.up hup
              clear hK hS hup
              have hS := hS'
              clear hS'
              try simp only [Act.put, List.setIfInBounds_toArray, List.set_cons_zero, List.set_cons_succ]
              refine anyE_takeA (i := 9) (v := ?_) 46 rfl rfl (by kernel_rfl) (by decide) (fun _ _ _ h => h) (by kernel_rfl) (by kernel_rfl) (.inl ⟨by rfl, fun u hu => ?_⟩) hS ?_
              rotate_left
              · (go_simp; first | done | with_reducible rfl)
              try simp only [Act.put, List.setIfInBounds_toArray, List.set_cons_zero, List.set_cons_succ]
              refine anyE_oneG (i := 11) rfl (by kernel_rfl) (by rfl) (fun K hK => ?_)
              go_simp
              refine (N4.out _).mono ?_
              rintro e u3 ⟨rfl, hup⟩
              try dsimp only
              have hS' := hS.trans hup
              refine hK.out _ _ (.inr hS') ?_
              have hZ := hZ.up hup
              clear hK hS hup
              have hS := hS'
              clear hS'
              try simp only [Act.put, List.setIfInBounds_toArray, List.set_cons_zero, List.set_cons_succ]
              refine anyE_takeA (i := 12) (v := ?_) 49 rfl rfl (by kernel_rfl) (by decide) (fun _ _ _ h => h) (by kernel_rfl) (by kernel_rfl) (.inl ⟨by rfl, fun u hu => ?_⟩) hS ?_
              rotate_left
              · (go_simp; first | done | with_reducible rfl)
              try simp only [Act.put, List.setIfInBounds_toArray, List.set_cons_zero, List.set_cons_succ]
              refine anyE_oneG (i := 14) rfl (by kernel_rfl) (by rfl) (fun K hK => ?_)
              refine op_store_row 36 _ _ rfl rfl g #[.int .i64 ((i : Int) + 1), .int .i64 ((j : Int) + 1), .int .i64 Y] rfl rfl 36 #[.int .i64 0, .int .i64 0, .int .i64 0] hZ (by kernel_rfl) rfl (by first | kernel_rfl | simp [Value.oneCell']) ?_
              have hZ := hZ.row #[.int .i64 ((i : Int) + 1), .int .i64 ((j : Int) + 1), .int .i64 Y]
              have hS' := hS.setRow hgg #[.int .i64 ((i : Int) + 1), .int .i64 ((j : Int) + 1), .int .i64 Y]
              refine hK.out _ _ (.inr hS') ?_
              clear hK hS
              have hS := hS'
              clear hS'
              generalize World.setRow _ g _ = u4 at *
              try simp only [Act.put, List.setIfInBounds_toArray, List.set_cons_zero, List.set_cons_succ]
              refine anyE_done (by kernel_rfl) ?_ _
              go_wp2_with fail
              go_meet
              exact ⟨g, rfl, hid hS, hid hZ⟩
          case rest =>
            rename World => w5
            obtain ⟨g, rfl, HUc, HZ5⟩ := hcut
            clear hw
            have HU5 := hid (HUr.out.trans HUc.out)
            clear HUc HUr
            obtain ⟨⟨lc0, lc1, lc2⟩, lc3, lc4, lc5⟩ := HA0.out.up HU5.out
            obtain ⟨⟨lb0, lb1, lb2⟩, lb3, lb4, lb5⟩ := HV0.out.up HU5.out
            have HC5 := hid (HC0.out.up HU5.out)
            have ls0 := (HS0.out.up HU5.out).val (i := 0) rfl
            have ls1 := (HS0.out.up HU5.out).val (i := 1) rfl
            have ls2 := (HS0.out.up HU5.out).val (i := 2) rfl
            have ls3 := (HS0.out.up HU5.out).val (i := 3) rfl
            have z0 := HZ5.out.val (i := 0) rfl
            have z1 := HZ5.out.val (i := 1) rfl
            have z2 := HZ5.out.val (i := 2) rfl
            go_wp2_with (refine wpList_load_row rfl 31 _ rfl o2 rfl 31 cs (0, 0) _ HC5.out Tryz.underlying31 rfl HCz.out ?_)
            refine (N5.out _).mono ?_
            rintro e w6 ⟨rfl, hU6⟩
            have HU6 := hid (HU5.out.trans hU6)
            clear hU6 HU5 HZ5 HC5 lc0 lc1 lc2 lc3 lc4 lc5 lb0 lb1 lb2 lb3 lb4 lb5 ls0 ls1 ls2 ls3 z0 z1 z2
            cases b
            · have hn := HFa.out rfl
              clear HT HFa
              go_wp2_with fail
              go_roundw
              case rel => exact ⟨j + 1, by omega, by rw [hn, HM.out]; simp, by go_num, HU6⟩
              case measure => simp [intOf]; omega
            · have hn := HT.out rfl
              clear HT HFa
              go_wp2_with fail
              go_roundw
              case rel => exact ⟨j + 1, by omega, by rw [hn, HM.out]; go_num, by go_num, HU6⟩
              case measure => simp [intOf]; omega
        · obtain rfl : j = K := by omega
          have d2 : decide ((j : Int) + 1 < (j : Int) + 1) = false := by simp
          go_wp2_with fail
          go_roundw
          case rel => exact ⟨i + 1, by omega, by rw [cS, HN.out, HM.out], by go_num, HUr⟩
          case measure => simp [intOf]; omega
    · obtain rfl : i = K := by omega
      have d0 : decide ((i : Int) + 1 < (i : Int) + 1) = false := by simp
      obtain rfl : R = N := by rw [← HRr.out, HN.out]
      go_wp2
      go_ret
      exact ⟨rfl, HU0.out.trans HUr.out⟩
end Go.Proofs.YtdbhleinhpiohaaGreatDoor
namespace Go.Proofs.YtdbhleinhpiohaaGreatDoor
open Go.RowKit Go.Sp
set_option maxHeartbeats 4000000
set_option maxRecDepth 20000

/-- The factors, zeros if there are none. -/
def oT (O : Option (Int × Int × Int)) : Int × Int × Int := match O with | some x => x | none => (0, 0, 0)

theorem facO_lgV (P Q G m z x y c r p V sz sa sb sr t : Int) : facO P Q G m z x y c r p V sz sa sb sr t = if fitB P Q G m z x y c r (lgV P Q m p) (V * t % Q) ((sr - r * (V * t % Q) % Q) % Q) p V sz sa sb sr = true then some (lgV P Q m p, V * t % Q, (sr - r * (V * t % Q) % Q) % Q) else none := by
  unfold facO lgV
  cases h : lgN P Q m p with
  | none => dsimp only; rw [fitB_neg (by omega)]; rfl
  | some n => rfl

theorem rFactors_any (P Q G A B C m z x y c r p : Int) (root : Nat → Int) (sz sa sb sr : Int) (w : World) (hR : Byt root) (g1 : P < 2305843009213693952) (g2 : 2 ≤ P) (g3 : 1 ≤ Q) (g4 : Q < 2305843009213693952) (g5 : 0 ≤ G) (g6 : G < P) (m0 : 0 ≤ m) (m1 : m < P) (z0 : 0 ≤ z) (z1 : z < P) (a0 : 0 ≤ x) (a1 : x < P) (b0 : 0 ≤ y) (b1 : y < P) (c0 : 0 ≤ c) (c1 : c < Q) (r0 : 0 ≤ r) (r1 : r < Q) (p0 : 0 ≤ p) (p1 : p < P) (s0 : 0 ≤ sr) (s1 : sr < Q) (t : Int) (t0 : 0 ≤ t) (t1 : t < Q) (ht : c * t % Q = 1 % Q) :
    Calls Tryz.prog 10 #[bas P Q G A B C, vw m z x y c r, .int .i64 p, hashV root, sgn sz sa sb sr] w fun e w' => e = .returned (.tuple #[.agg #[.int .i64 (oT (facO P Q G m z x y c r p (coinC P Q G A B C p root sz sa sb) sz sa sb sr t)).1, .int .i64 (oT (facO P Q G m z x y c r p (coinC P Q G A B C p root sz sa sb) sz sa sb sr t)).2.1, .int .i64 (oT (facO P Q G m z x y c r p (coinC P Q G A B C p root sz sa sb) sz sa sb sr t)).2.2], .bool (facO P Q G m z x y c r p (coinC P Q G A B C p root sz sa sb) sz sa sb sr t).isSome]) ∧ Up w w' := by
  have v0 := coinC_range P G A B C p root sz sa sb (Q := Q) (by omega)
  have M1 := hid (fun w' => rLog_any P Q G m p w' g2 g1 (by omega) g4 m0 m1)
  have M2 := hid (fun w' => rInverse_ok c Q t w' c0 c1 g4 t0 t1 ht)
  have M3 := hid (fun w' => rChallenge_any P Q G A B C p root sz sa sb sr w' g3 g4 hR)
  have M7 := hid (fun (s u v : Int) w' => r26Fits_any P Q G A B C m z x y c r s u v p root sz sa sb sr w' hR g1 g2 g3 g4 g5 g6 m0 m1 z0 z1 a0 a1 b0 b1 c0 c1 r0 r1 p0 p1)
  rw [facO_lgV]
  generalize coinC P Q G A B C p root sz sa sb = V at *
  generalize lgV P Q m p = L at *
  have M4 := hid (fun w' => r26times_ok P Q G A B C V t w' v0.1 v0.2 t0 t1 g4)
  obtain ⟨U, hU⟩ : ∃ U, V * t % Q = U := ⟨_, rfl⟩
  have u0 : 0 ≤ U := by rw [← hU]; exact Int.emod_nonneg _ (by omega)
  have u1 : U < Q := by rw [← hU]; exact Int.emod_lt_of_pos _ (by omega)
  rw [hU] at M4 ⊢
  have M5 := hid (fun w' => r26times_ok P Q G A B C r U w' r0 r1 u0 u1 g4)
  obtain ⟨X, hX⟩ : ∃ X, r * U % Q = X := ⟨_, rfl⟩
  have x0 : 0 ≤ X := by rw [← hX]; exact Int.emod_nonneg _ (by omega)
  have x1 : X < Q := by rw [← hX]; exact Int.emod_lt_of_pos _ (by omega)
  rw [hX] at M5 ⊢
  have M6 := hid (fun w' => show Calls _ _ _ _ (fun e w'' => e = .returned (.int .i64 ((sr - X) % Q)) ∧ Up w' w'') from (rReduce_ok (sr - X) Q w' (by omega) (by omega) g3 g4).mono (fun e w'' h => ⟨h.1, h.2 ▸ Up.refl _⟩))
  have hw : IntKind.i64.wrap (sr - X) = sr - X := by rw [IntKind.wrap_i64]; omega
  generalize (sr - X) % Q = Y at *
  have M7 := hid (fun w' => M7.out L U Y w')
  obtain ⟨b, hb⟩ : ∃ b, fitB P Q G m z x y c r L U Y p V sz sa sb sr = b := ⟨_, rfl⟩
  rw [hb] at M7 ⊢
  clear hb hU hX u0 u1 x0 x1 v0 t0 t1 ht
  obtain ⟨cs, hcs⟩ : ∃ cs, arrK .u8 root 32 = cs := ⟨_, rfl⟩
  have HCz : Hid ((Tryz.prog.info? 31).map (·.size) = some cs.size) := hid (by rw [← hcs, arrK_size]; kernel_rfl)
  unfold hashV at M3 M7 ⊢
  rw [hcs] at M3 M7 ⊢
  obtain ⟨o, ho⟩ : ∃ o, w.heap.size = o := ⟨_, rfl⟩
  have HO := hid ho
  obtain ⟨o1, ho1⟩ : ∃ o1, o + 1 = o1 := ⟨_, rfl⟩
  have HO1 := hid ho1
  obtain ⟨o2, ho2⟩ : ∃ o2, o1 + 1 = o2 := ⟨_, rfl⟩
  have HO2 := hid ho2
  obtain ⟨o3, ho3⟩ : ∃ o3, o2 + 1 = o3 := ⟨_, rfl⟩
  have HO3 := hid ho3
  obtain ⟨o4, ho4⟩ : ∃ o4, o3 + 1 = o4 := ⟨_, rfl⟩
  have HO4 := hid ho4
  have hlw : w.heap.size ≤ o4 := by omega
  clear g1 g2 g3 g4 g5 g6 m0 m1 z0 z1 a0 a1 b0 b1 c0 c1 r0 r1 p0 p1 s0 s1 hR hcs ho ho1 ho2 ho3 ho4
  go_enter Tryz.func10, Tryz.ntmps10
  go_wp2_with fail
  refine (M1.out _).mono ?_
  rintro e w1 ⟨rfl, hU1⟩
  have HA1 := hid (((nums_six (w := w) (t := 25) HO.out).up (((((Up.refl _).alloc _).alloc _).alloc _).alloc _)).up hU1)
  have HV1 := hid (((nums_six (r := o1) (t := 29) (by have := HO.out; have := HO1.out; have := HO2.out; have := HO3.out; have := HO4.out; simp; omega)).up ((((Up.refl _).alloc _).alloc _).alloc _)).up hU1)
  have HC1 := hid (((Blk.new (g := o2) (t := 31) (by have := HO.out; have := HO1.out; have := HO2.out; have := HO3.out; have := HO4.out; simp; omega) rfl).up (((Up.refl _).alloc _).alloc _)).up hU1)
  have HS1 := hid (((Blk.new (g := o3) (t := 33) (by have := HO.out; have := HO1.out; have := HO2.out; have := HO3.out; have := HO4.out; simp; omega) rfl).up ((Up.refl _).alloc _)).up hU1)
  have HR1 := hid (((Blk.new (g := o4) (t := 36) (cs := #[.int .i64 0, .int .i64 0, .int .i64 0]) (by have := HO.out; have := HO1.out; have := HO2.out; have := HO3.out; have := HO4.out; simp; omega) rfl)).up hU1)
  have HU1 := hid (((((((Up.refl w).alloc _).alloc _).alloc _).alloc _).alloc _).trans hU1)
  clear hU1
  rw [HO.out, HO1.out, HO2.out, HO3.out, HO4.out]
  obtain ⟨⟨lb0, lb1, lb2⟩, lb3, lb4, lb5⟩ := HV1.out
  go_wp2_with fail
  refine (M2.out _).mono ?_
  rintro e w2 ⟨rfl, hU2⟩
  have HA2 := hid (HA1.out.up hU2)
  have HV2 := hid (HV1.out.up hU2)
  have HC2 := hid (HC1.out.up hU2)
  have HS2 := hid (HS1.out.up hU2)
  have HR2 := hid (HR1.out.up hU2)
  have HU2 := hid (HU1.out.trans hU2)
  clear hU2 HA1 HV1 HC1 HS1 HR1 HU1 lb0 lb1 lb2 lb3 lb4 lb5
  obtain ⟨⟨lc0, lc1, lc2⟩, lc3, lc4, lc5⟩ := HA2.out
  have ls0 := HS2.out.val (i := 0) rfl
  have ls1 := HS2.out.val (i := 1) rfl
  have ls2 := HS2.out.val (i := 2) rfl
  have ls3 := HS2.out.val (i := 3) rfl
  have flc0 := cellF lc0
  have flc1 := cellF lc1
  have flc2 := cellF lc2
  have flc3 := cellF lc3
  have flc4 := cellF lc4
  have flc5 := cellF lc5
  have fls0 := cellF ls0
  have fls1 := cellF ls1
  have fls2 := cellF ls2
  have fls3 := cellF ls3
  clear lc0 lc1 lc2 lc3 lc4 lc5 ls0 ls1 ls2 ls3
  go_wp2_with fail
  refine wp_region_up (by kernel_rfl) (by kernel_rfl) ?_
  try simp only [List.append_eq, List.cons_append, List.nil_append]
  repeat (first
    | (go_big_quiet_want; (refine quiet_load_row 31 _ (by rfl) o2 (by rfl) 31 cs _ HC2.out.from Tryz.underlying31 rfl HCz.out ?_); simp only [Act.put, List.setIfInBounds_toArray, List.set_cons_zero, List.set_cons_succ]; go_big_quiet_on)
    | (go_big_quiet_step ((first
    | (go_at_call 29; exact Calls.up_of (M3.out _))
    | (go_at_call 26; exact Calls.up_of (M4.out _))))))
  refine wpQuiet_nil ?_
  rintro w3 ⟨⟨_, hU3⟩, rfl⟩
  try dsimp only
  have HA3 := hid (HA2.out.up hU3)
  have HV3 := hid (HV2.out.up hU3)
  have HC3 := hid (HC2.out.up hU3)
  have HS3 := hid (HS2.out.up hU3)
  have HR3 := hid (HR2.out.up hU3)
  have HU3 := hid (HU2.out.trans hU3)
  clear hU3 HU2 HA2 HV2 HC2 HS2 HR2 flc0 flc1 flc2 flc3 flc4 flc5 fls0 fls1 fls2 fls3
  go_wp2_with fail
  go_cut [17] from 42 to 54 (fun va w' => ∃ g, va = .pointer (some ⟨g, 0, none⟩) ∧ Hid (Up w3 w') ∧ Hid (Blk w' g 36 #[.int .i64 L, .int .i64 U, .int .i64 Y]))
  case first =>
    refine region_E (fun u => Up w3 u) 15 (by kernel_rfl) (Up.refl w3).drew fun hS => ?_
    generalize w3.drew = u0 at *
    refine anyE_takeA (i := 0) (v := ?_) 42 rfl rfl (by kernel_rfl) (by decide) (fun _ _ _ h => h) (by kernel_rfl) (by kernel_rfl) (.inl ⟨by rfl, fun u hu => ?_⟩) hS ?_
    rotate_left
    · (go_simp; first | done | with_reducible rfl)
    try simp only [Act.put, List.setIfInBounds_toArray, List.set_cons_zero, List.set_cons_succ]
    refine anyE_takeA (i := 1) (v := ?_) 43 rfl rfl (by kernel_rfl) (by decide) (fun _ _ _ h => h) (by kernel_rfl) (by kernel_rfl) (.inl ⟨by rfl, fun u hu => ?_⟩) hS ?_
    rotate_left
    · (go_simp; first | done | with_reducible rfl)
    try simp only [Act.put, List.setIfInBounds_toArray, List.set_cons_zero, List.set_cons_succ]
    refine anyE_takeA (i := 2) (v := ?_) 44 rfl rfl (by kernel_rfl) (by decide) (fun _ _ _ h => h) (by kernel_rfl) (by kernel_rfl) (.inl ⟨by rfl, fun u hu => ?_⟩) hS ?_
    rotate_left
    · (obtain ⟨⟨z0, z1, z2⟩, z3, z4, z5⟩ := HA3.out.up hu; obtain ⟨⟨y0, y1, y2⟩, y3, y4, y5⟩ := HV3.out.up hu; have x9 := (HS3.out.up hu).val (i := 3) rfl; go_simp; first | done | with_reducible rfl)
    try simp only [Act.put, List.setIfInBounds_toArray, List.set_cons_zero, List.set_cons_succ]
    refine anyE_takeA (i := 3) (v := ?_) 45 rfl rfl (by kernel_rfl) (by decide) (fun _ _ _ h => h) (by kernel_rfl) (by kernel_rfl) (.inl ⟨by rfl, fun u hu => ?_⟩) hS ?_
    rotate_left
    · (obtain ⟨⟨z0, z1, z2⟩, z3, z4, z5⟩ := HA3.out.up hu; obtain ⟨⟨y0, y1, y2⟩, y3, y4, y5⟩ := HV3.out.up hu; have x9 := (HS3.out.up hu).val (i := 3) rfl; go_simp; first | done | with_reducible rfl)
    try simp only [Act.put, List.setIfInBounds_toArray, List.set_cons_zero, List.set_cons_succ]
    refine anyE_takeA (i := 4) (v := ?_) 46 rfl rfl (by kernel_rfl) (by decide) (fun _ _ _ h => h) (by kernel_rfl) (by kernel_rfl) (.inl ⟨by rfl, fun u hu => ?_⟩) hS ?_
    rotate_left
    · (obtain ⟨⟨z0, z1, z2⟩, z3, z4, z5⟩ := HA3.out.up hu; obtain ⟨⟨y0, y1, y2⟩, y3, y4, y5⟩ := HV3.out.up hu; have x9 := (HS3.out.up hu).val (i := 3) rfl; go_simp; first | done | with_reducible rfl)
    try simp only [Act.put, List.setIfInBounds_toArray, List.set_cons_zero, List.set_cons_succ]
    refine anyE_takeA (i := 5) (v := ?_) 47 rfl rfl (by kernel_rfl) (by decide) (fun _ _ _ h => h) (by kernel_rfl) (by kernel_rfl) (.inl ⟨by rfl, fun u hu => ?_⟩) hS ?_
    rotate_left
    · (obtain ⟨⟨z0, z1, z2⟩, z3, z4, z5⟩ := HA3.out.up hu; obtain ⟨⟨y0, y1, y2⟩, y3, y4, y5⟩ := HV3.out.up hu; have x9 := (HS3.out.up hu).val (i := 3) rfl; go_simp; first | done | with_reducible rfl)
    try simp only [Act.put, List.setIfInBounds_toArray, List.set_cons_zero, List.set_cons_succ]
    refine anyE_takeA (i := 6) (v := ?_) 48 rfl rfl (by kernel_rfl) (by decide) (fun _ _ _ h => h) (by kernel_rfl) (by kernel_rfl) (.inl ⟨by rfl, fun u hu => ?_⟩) hS ?_
    rotate_left
    · (obtain ⟨⟨z0, z1, z2⟩, z3, z4, z5⟩ := HA3.out.up hu; obtain ⟨⟨y0, y1, y2⟩, y3, y4, y5⟩ := HV3.out.up hu; have x9 := (HS3.out.up hu).val (i := 3) rfl; go_simp; first | done | with_reducible rfl)
    try simp only [Act.put, List.setIfInBounds_toArray, List.set_cons_zero, List.set_cons_succ]
    refine anyE_takeA (i := 7) (v := ?_) 49 rfl rfl (by kernel_rfl) (by decide) (fun _ _ _ h => h) (by kernel_rfl) (by kernel_rfl) (.inl ⟨by rfl, fun u hu => ?_⟩) hS ?_
    rotate_left
    · (go_simp; first | done | with_reducible rfl)
    try simp only [Act.put, List.setIfInBounds_toArray, List.set_cons_zero, List.set_cons_succ]
    refine anyE_takeA (i := 10) (v := ?_) 52 rfl rfl (by kernel_rfl) (by decide) (fun _ _ _ h => h) (by kernel_rfl) (by kernel_rfl) (.inl ⟨by rfl, fun u hu => ?_⟩) hS ?_
    rotate_left
    · (go_simp; first | done | with_reducible rfl)
    try simp only [Act.put, List.setIfInBounds_toArray, List.set_cons_zero, List.set_cons_succ]
    refine anyE_two 8 13 (by kernel_rfl) ⟨_, rfl, rfl, fun K hK => ?_⟩ ⟨_, rfl, rfl, fun K hK => ?_⟩
    · go_simp
      refine (M5.out _).mono ?_
      rintro e u1 ⟨rfl, hup⟩
      try dsimp only
      have hS' := hS.trans hup
      refine hK.out _ _ (.inr hS') ?_
      clear hK hS hup
      have hS := hS'
      clear hS'
      try simp only [Act.put, List.setIfInBounds_toArray, List.set_cons_zero, List.set_cons_succ]
      refine anyE_takeA (i := 9) (v := ?_) 51 rfl rfl (by kernel_rfl) (by decide) (fun _ _ _ h => h) (by kernel_rfl) (by kernel_rfl) (.inl ⟨by rfl, fun u hu => ?_⟩) hS ?_
      rotate_left
      · (go_simp; first | done | with_reducible rfl)
      try simp only [Act.put, List.setIfInBounds_toArray, List.set_cons_zero, List.set_cons_succ]
      refine anyE_two 11 13 (by kernel_rfl) ⟨_, rfl, rfl, fun K hK => ?_⟩ ⟨_, rfl, rfl, fun K hK => ?_⟩
      · go_simp
        refine (M6.out _).mono ?_
        rintro e u2 ⟨rfl, hup⟩
        try dsimp only
        have hS' := hS.trans hup
        refine hK.out _ _ (.inr hS') ?_
        clear hK hS hup
        have hS := hS'
        clear hS'
        try simp only [Act.put, List.setIfInBounds_toArray, List.set_cons_zero, List.set_cons_succ]
        refine anyE_takeA (i := 12) (v := ?_) 54 rfl rfl (by kernel_rfl) (by decide) (fun _ _ _ h => h) (by kernel_rfl) (by kernel_rfl) (.inl ⟨by rfl, fun u hu => ?_⟩) hS ?_
        rotate_left
        · (go_simp; first | done | with_reducible rfl)
        try simp only [Act.put, List.setIfInBounds_toArray, List.set_cons_zero, List.set_cons_succ]
        refine anyE_oneG (i := 13) rfl (by kernel_rfl) (by rfl) (fun K hK => ?_)
        go_simp
        obtain ⟨g, hg⟩ : ∃ g, u2.heap.size = g := ⟨_, rfl⟩
        generalize hWz : World.alloc u2 _ = u3
        have hZ : Blk u3 g 36 #[.int .i64 0, .int .i64 0, .int .i64 0] := by rw [← hWz]; exact Blk.new hg rfl
        have hup : Up u2 u3 := by rw [← hWz]; exact (Up.refl _).alloc _
        have hgg : w3.heap.size ≤ g := by have := hS.size; omega
        try rw [hg]
        have hS' := hS.trans hup
        refine hK.out _ _ (.inr hS') ?_
        clear hK hWz hS hup hg
        have hS := hS'
        clear hS'
        try simp only [Act.put, List.setIfInBounds_toArray, List.set_cons_zero, List.set_cons_succ]
        refine anyE_oneG (i := 14) rfl (by kernel_rfl) (by rfl) (fun K hK => ?_)
        refine op_store_row 36 _ _ rfl rfl g #[.int .i64 L, .int .i64 U, .int .i64 Y] rfl rfl 36 #[.int .i64 0, .int .i64 0, .int .i64 0] hZ (by kernel_rfl) rfl (by first | kernel_rfl | simp [Value.oneCell']) ?_
        have hZ := hZ.row #[.int .i64 L, .int .i64 U, .int .i64 Y]
        have hS' := hS.setRow hgg #[.int .i64 L, .int .i64 U, .int .i64 Y]
        refine hK.out _ _ (.inr hS') ?_
        clear hK hS
        have hS := hS'
        clear hS'
        generalize World.setRow _ g _ = u4 at *
        try simp only [Act.put, List.setIfInBounds_toArray, List.set_cons_zero, List.set_cons_succ]
        refine anyE_done (by kernel_rfl) ?_ _
        go_wp2_with fail
        go_meet
        exact ⟨g, rfl, hid hS, hid hZ⟩
      · go_simp
        obtain ⟨g, hg⟩ : ∃ g, u1.heap.size = g := ⟨_, rfl⟩
        generalize hWz : World.alloc u1 _ = u2
        have hZ : Blk u2 g 36 #[.int .i64 0, .int .i64 0, .int .i64 0] := by rw [← hWz]; exact Blk.new hg rfl
        have hup : Up u1 u2 := by rw [← hWz]; exact (Up.refl _).alloc _
        have hgg : w3.heap.size ≤ g := by have := hS.size; omega
        try rw [hg]
        have hS' := hS.trans hup
        refine hK.out _ _ (.inr hS') ?_
        clear hK hWz hS hup hg
        have hS := hS'
        clear hS'
        try simp only [Act.put, List.setIfInBounds_toArray, List.set_cons_zero, List.set_cons_succ]
        refine anyE_oneG (i := 11) rfl (by kernel_rfl) (by rfl) (fun K hK => ?_)
        go_simp
        refine (M6.out _).mono ?_
        rintro e u3 ⟨rfl, hup⟩
        try dsimp only
        have hS' := hS.trans hup
        refine hK.out _ _ (.inr hS') ?_
        have hZ := hZ.up hup
        clear hK hS hup
        have hS := hS'
        clear hS'
        try simp only [Act.put, List.setIfInBounds_toArray, List.set_cons_zero, List.set_cons_succ]
        refine anyE_takeA (i := 12) (v := ?_) 54 rfl rfl (by kernel_rfl) (by decide) (fun _ _ _ h => h) (by kernel_rfl) (by kernel_rfl) (.inl ⟨by rfl, fun u hu => ?_⟩) hS ?_
        rotate_left
        · (go_simp; first | done | with_reducible rfl)
        try simp only [Act.put, List.setIfInBounds_toArray, List.set_cons_zero, List.set_cons_succ]
        refine anyE_oneG (i := 14) rfl (by kernel_rfl) (by rfl) (fun K hK => ?_)
        refine op_store_row 36 _ _ rfl rfl g #[.int .i64 L, .int .i64 U, .int .i64 Y] rfl rfl 36 #[.int .i64 0, .int .i64 0, .int .i64 0] hZ (by kernel_rfl) rfl (by first | kernel_rfl | simp [Value.oneCell']) ?_
        have hZ := hZ.row #[.int .i64 L, .int .i64 U, .int .i64 Y]
        have hS' := hS.setRow hgg #[.int .i64 L, .int .i64 U, .int .i64 Y]
        refine hK.out _ _ (.inr hS') ?_
        clear hK hS
        have hS := hS'
        clear hS'
        generalize World.setRow _ g _ = u4 at *
        try simp only [Act.put, List.setIfInBounds_toArray, List.set_cons_zero, List.set_cons_succ]
        refine anyE_done (by kernel_rfl) ?_ _
        go_wp2_with fail
        go_meet
        exact ⟨g, rfl, hid hS, hid hZ⟩
    · go_simp
      obtain ⟨g, hg⟩ : ∃ g, u0.heap.size = g := ⟨_, rfl⟩
      generalize hWz : World.alloc u0 _ = u1
      have hZ : Blk u1 g 36 #[.int .i64 0, .int .i64 0, .int .i64 0] := by rw [← hWz]; exact Blk.new hg rfl
      have hup : Up u0 u1 := by rw [← hWz]; exact (Up.refl _).alloc _
      have hgg : w3.heap.size ≤ g := by have := hS.size; omega
      try rw [hg]
      have hS' := hS.trans hup
      refine hK.out _ _ (.inr hS') ?_
      clear hK hWz hS hup hg
      have hS := hS'
      clear hS'
      try simp only [Act.put, List.setIfInBounds_toArray, List.set_cons_zero, List.set_cons_succ]
      refine anyE_oneG (i := 8) rfl (by kernel_rfl) (by rfl) (fun K hK => ?_)
      go_simp
      refine (M5.out _).mono ?_
      rintro e u2 ⟨rfl, hup⟩
      try dsimp only
      have hS' := hS.trans hup
      refine hK.out _ _ (.inr hS') ?_
      have hZ := hZ.up hup
      clear hK hS hup
      have hS := hS'
      clear hS'
      try simp only [Act.put, List.setIfInBounds_toArray, List.set_cons_zero, List.set_cons_succ]
      refine anyE_takeA (i := 9) (v := ?_) 51 rfl rfl (by kernel_rfl) (by decide) (fun _ _ _ h => h) (by kernel_rfl) (by kernel_rfl) (.inl ⟨by rfl, fun u hu => ?_⟩) hS ?_
      rotate_left
      · (go_simp; first | done | with_reducible rfl)
      try simp only [Act.put, List.setIfInBounds_toArray, List.set_cons_zero, List.set_cons_succ]
      refine anyE_oneG (i := 11) rfl (by kernel_rfl) (by rfl) (fun K hK => ?_)
      go_simp
      refine (M6.out _).mono ?_
      rintro e u3 ⟨rfl, hup⟩
      try dsimp only
      have hS' := hS.trans hup
      refine hK.out _ _ (.inr hS') ?_
      have hZ := hZ.up hup
      clear hK hS hup
      have hS := hS'
      clear hS'
      try simp only [Act.put, List.setIfInBounds_toArray, List.set_cons_zero, List.set_cons_succ]
      refine anyE_takeA (i := 12) (v := ?_) 54 rfl rfl (by kernel_rfl) (by decide) (fun _ _ _ h => h) (by kernel_rfl) (by kernel_rfl) (.inl ⟨by rfl, fun u hu => ?_⟩) hS ?_
      rotate_left
      · (go_simp; first | done | with_reducible rfl)
      try simp only [Act.put, List.setIfInBounds_toArray, List.set_cons_zero, List.set_cons_succ]
      refine anyE_oneG (i := 14) rfl (by kernel_rfl) (by rfl) (fun K hK => ?_)
      refine op_store_row 36 _ _ rfl rfl g #[.int .i64 L, .int .i64 U, .int .i64 Y] rfl rfl 36 #[.int .i64 0, .int .i64 0, .int .i64 0] hZ (by kernel_rfl) rfl (by first | kernel_rfl | simp [Value.oneCell']) ?_
      have hZ := hZ.row #[.int .i64 L, .int .i64 U, .int .i64 Y]
      have hS' := hS.setRow hgg #[.int .i64 L, .int .i64 U, .int .i64 Y]
      refine hK.out _ _ (.inr hS') ?_
      clear hK hS
      have hS := hS'
      clear hS'
      generalize World.setRow _ g _ = u4 at *
      try simp only [Act.put, List.setIfInBounds_toArray, List.set_cons_zero, List.set_cons_succ]
      refine anyE_done (by kernel_rfl) ?_ _
      go_wp2_with fail
      go_meet
      exact ⟨g, rfl, hid hS, hid hZ⟩
  case rest =>
    rename World => w4
    obtain ⟨g, rfl, HUc, HZ4⟩ := hcut
    clear hw
    have HA4 := hid (HA3.out.up HUc.out)
    have HV4 := hid (HV3.out.up HUc.out)
    have HC4 := hid (HC3.out.up HUc.out)
    have HS4 := hid (HS3.out.up HUc.out)
    have HR4 := hid (HR3.out.up HUc.out)
    have HU4 := hid (HU3.out.trans HUc.out)
    clear HUc HU3 HA3 HV3 HC3 HS3 HR3
    obtain ⟨⟨lc0, lc1, lc2⟩, lc3, lc4, lc5⟩ := HA4.out
    obtain ⟨⟨lb0, lb1, lb2⟩, lb3, lb4, lb5⟩ := HV4.out
    have ls0 := HS4.out.val (i := 0) rfl
    have ls1 := HS4.out.val (i := 1) rfl
    have ls2 := HS4.out.val (i := 2) rfl
    have ls3 := HS4.out.val (i := 3) rfl
    have z0 := HZ4.out.val (i := 0) rfl
    have z1 := HZ4.out.val (i := 1) rfl
    have z2 := HZ4.out.val (i := 2) rfl
    go_wp2_with (refine wpList_load_row rfl 31 _ rfl o2 rfl 31 cs (0, 0) _ HC4.out Tryz.underlying31 rfl HCz.out ?_)
    refine (M7.out _).mono ?_
    rintro e w5 ⟨rfl, hU5⟩
    have HZ5 := hid (HZ4.out.up hU5)
    have HR5 := hid (HR4.out.up hU5)
    have HU5 := hid (HU4.out.trans hU5)
    clear hU5 HU4 HZ4 HA4 HV4 HC4 HS4 HR4 lc0 lc1 lc2 lc3 lc4 lc5 lb0 lb1 lb2 lb3 lb4 lb5 ls0 ls1 ls2 ls3 z0 z1 z2
    have v0 := (HR5.out).val (i := 0) rfl
    have v1 := (HR5.out).val (i := 1) rfl
    have v2 := (HR5.out).val (i := 2) rfl
    have y0 := (HR5.out).thawed 0
    have y1 := (HR5.out).thawed 1
    have y2 := (HR5.out).thawed 2
    cases b
    · go_wp2
      refine bodyPost_ret (v := .tuple #[.agg #[.int .i64 0, .int .i64 0, .int .i64 0], .bool false]) (results_row_tmp Tryz.results10 _ _ o4 36 _ (0, 0) _ (by rfl) (blk_three (HR5.out) _ _ _) Tryz.underlying36 rfl (by kernel_rfl)) rfl ⟨rfl, (((HU5.out).setCell (a := ⟨o4, 0, none⟩) hlw _).setCell (a := ⟨o4, 1, none⟩) hlw _).setCell (a := ⟨o4, 2, none⟩) hlw _⟩
    · have z0 := HZ5.out.val (i := 0) rfl
      have z1 := HZ5.out.val (i := 1) rfl
      have z2 := HZ5.out.val (i := 2) rfl
      go_wp2
      refine bodyPost_ret (v := .tuple #[.agg #[.int .i64 L, .int .i64 U, .int .i64 Y], .bool true]) (results_row_tmp Tryz.results10 _ _ o4 36 _ (0, 0) _ (by rfl) (blk_three (HR5.out) _ _ _) Tryz.underlying36 rfl (by kernel_rfl)) rfl ⟨rfl, (((HU5.out).setCell (a := ⟨o4, 0, none⟩) hlw _).setCell (a := ⟨o4, 1, none⟩) hlw _).setCell (a := ⟨o4, 2, none⟩) hlw _⟩
end Go.Proofs.YtdbhleinhpiohaaGreatDoor
namespace Go.Proofs.YtdbhleinhpiohaaGreatDoor
open Go.RowKit Go.Sp
set_option maxHeartbeats 4000000
set_option maxRecDepth 20000

theorem inv_ex {P Q G A B C c : Int} (hb : bvB P Q G A B C = true) (hc : nzB Q c = true) (hq : Q ≤ 1048576) : ∃ t, 0 ≤ t ∧ t < Q ∧ c * t % Q = 1 % Q := by
  have g := gv_iff.1 (bv_iff.1 hb).1
  obtain ⟨a9, a10⟩ := nzB_iff.1 hc
  exact hasInv (isP_prim g.pQ (by have := g.Q3; omega) (by have := g.Qo; omega)) (by omega) a10

theorem UnlinkFactors_walk (P Q G A B C k1 k2 k3 m z x y c r p : Int) (root : Nat → Int) (sz sa sb sr : Int) (w : World) (hP : -9223372036854775808 ≤ P) (hQ : Q ≤ 9223372036854775807) (hT : Tab w) (hS : TabS w) (hR : Byt root) :
    Calls Tryz.prog 3 #[bas P Q G A B C, bkey k1 k2 k3, vw m z x y c r, .int .i64 p, hashV root, sgn sz sa sb sr] w fun e w' => e = .returned (.bool true) ∧ Up w w' := by
  have HT := hid hT
  have HF := hid (flt_ok (P := P) (Q := Q) (G := G) (A := A) (B := B) (C := C) (k1 := k1) (k2 := k2) (k3 := k3) (m := m) (z := z) (x := x) (y := y) (c := c) (r := r) (p := p) (root := root) (sz := sz) (sa := sa) (sb := sb) (sr := sr))
  obtain ⟨t, ht⟩ : ∃ t : Int, fltE (kvB P Q G A B C k1 k2 k3) (cvB P Q G A B C k1 k2 k3 m z x y c r) (verB P Q G A B C k1 k2 k3 p root sz sa sb sr) = 0 → Q ≤ 1048576 → 0 ≤ t ∧ t < Q ∧ c * t % Q = 1 % Q := by
    by_cases h : fltE (kvB P Q G A B C k1 k2 k3) (cvB P Q G A B C k1 k2 k3 m z x y c r) (verB P Q G A B C k1 k2 k3 p root sz sa sb sr) = 0 ∧ Q ≤ 1048576
    · obtain ⟨hbv, ⟨_, _, _, _, hc, _⟩, _⟩ := HF.out h.1
      obtain ⟨t, h1⟩ := inv_ex hbv hc h.2
      exact ⟨t, fun _ _ => h1⟩
    · exact ⟨0, fun h1 h2 => absurd ⟨h1, h2⟩ h⟩
  have M1 := hid (fun w' (hU : Up w w') => uFactors_any P Q G A B C k1 k2 k3 m z x y c r p root sz sa sb sr w' hP hQ (hT.up hU) (hS.up hU) hR t ht)
  have M2 := hid (fun w' (hU : Up w w') => uCount_any P Q G A B C k1 k2 k3 m z x y c r p root sz sa sb sr w' hP hQ (hT.up hU) (hS.up hU) hR)
  have M3 := hid (fun w' (_ : Up w w') => r26Fault_any P Q G A B C k1 k2 k3 m z x y c r p root sz sa sb sr w' hP hQ hR)
  have M4 := hid (fun (w' : World) g1 g2 g3 g4 g5 g6 m0 m1 z0 z1 a0 a1 b0 b1 c0 c1 r0 r1 p0 p1 s0 s1 h => rCount_any P Q G A B C m z x y c r p root sz sa sb sr w' hR g1 g2 g3 g4 g5 g6 m0 m1 z0 z1 a0 a1 b0 b1 c0 c1 r0 r1 p0 p1 s0 s1 h)
  have M5 := hid (fun (s u v : Int) (w' : World) g1 g2 g3 g4 g5 g6 m0 m1 z0 z1 a0 a1 b0 b1 c0 c1 r0 r1 p0 p1 => r26Fits_any P Q G A B C m z x y c r s u v p root sz sa sb sr w' hR g1 g2 g3 g4 g5 g6 m0 m1 z0 z1 a0 a1 b0 b1 c0 c1 r0 r1 p0 p1)
  have M6 := hid (fun (w' : World) g1 g2 g3 g4 g5 g6 m0 m1 z0 z1 a0 a1 b0 b1 c0 c1 r0 r1 p0 p1 s0 s1 h1 h2 h3 => rFactors_any P Q G A B C m z x y c r p root sz sa sb sr w' hR g1 g2 g3 g4 g5 g6 m0 m1 z0 z1 a0 a1 b0 b1 c0 c1 r0 r1 p0 p1 s0 s1 t h1 h2 h3)
  have HFt := hid (fun (s u v : Int) (h : facO P Q G m z x y c r p (coinC P Q G A B C p root sz sa sb) sz sa sb sr t = some (s, u, v)) => facO_some h)
  have Ht := hid ht
  clear ht
  generalize fltE (kvB P Q G A B C k1 k2 k3) (cvB P Q G A B C k1 k2 k3 m z x y c r) (verB P Q G A B C k1 k2 k3 p root sz sa sb sr) = E at *
  generalize facO P Q G m z x y c r p (coinC P Q G A B C p root sz sa sb) sz sa sb sr t = O at *
  generalize cntF P Q G m z x y c r p (coinC P Q G A B C p root sz sa sb) sz sa sb sr = n at *
  generalize coinC P Q G A B C p root sz sa sb = V at *
  obtain ⟨⟨rs, ru, rv⟩, hR3⟩ : ∃ X : Int × Int × Int, ufT E Q O = X := ⟨_, rfl⟩
  obtain ⟨T, hTt⟩ : ∃ T, ufE E Q O = T := ⟨_, rfl⟩
  obtain ⟨N, hNn⟩ : ∃ N, ucN E Q (n : Nat) = N := ⟨_, rfl⟩
  obtain ⟨D, hDd⟩ : ∃ D, ucE E Q = D := ⟨_, rfl⟩
  rw [hR3, hTt] at M1
  rw [hNn, hDd] at M2
  dsimp only at M1
  have HR3 := hid hR3
  have HTt := hid hTt
  have HNn := hid hNn
  have HDd := hid hDd
  clear hR3 hTt hNn hDd
  obtain ⟨cs, hcs⟩ : ∃ cs, arrK .u8 root 32 = cs := ⟨_, rfl⟩
  have HCz : Hid ((Tryz.prog.info? 31).map (·.size) = some cs.size) := hid (by rw [← hcs, arrK_size]; kernel_rfl)
  unfold hashV at M1 M2 M3 M4 M5 M6 ⊢
  rw [hcs] at M1 M2 M3 M4 M5 M6 ⊢
  obtain ⟨o, ho⟩ : ∃ o, w.heap.size = o := ⟨_, rfl⟩
  have HO := hid ho
  obtain ⟨o1, ho1⟩ : ∃ o1, o + 1 = o1 := ⟨_, rfl⟩
  have HO1 := hid ho1
  obtain ⟨o2, ho2⟩ : ∃ o2, o1 + 1 = o2 := ⟨_, rfl⟩
  have HO2 := hid ho2
  obtain ⟨o3, ho3⟩ : ∃ o3, o2 + 1 = o3 := ⟨_, rfl⟩
  have HO3 := hid ho3
  obtain ⟨o4, ho4⟩ : ∃ o4, o3 + 1 = o4 := ⟨_, rfl⟩
  have HO4 := hid ho4
  clear hT hS hR hcs ho ho1 ho2 ho3 ho4
  go_enter Tryz.func3, Tryz.ntmps3
  go_wp2_with fail
  refine (awake26 _ (HT.out.up ((((((Up.refl w).alloc _).alloc _).alloc _).alloc _).alloc _))).mono ?_
  rintro e w1 ⟨rfl, hU1⟩
  have HA1 := hid (((nums_six (w := w) (t := 25) HO.out).up (((((Up.refl _).alloc _).alloc _).alloc _).alloc _)).up hU1)
  have HY1 := hid (((nums_three (r := o1) (t := 27) (by have := HO.out; have := HO1.out; have := HO2.out; have := HO3.out; have := HO4.out; simp; omega)).up ((((Up.refl _).alloc _).alloc _).alloc _)).up hU1)
  have HV1 := hid (((nums_six (r := o2) (t := 29) (by have := HO.out; have := HO1.out; have := HO2.out; have := HO3.out; have := HO4.out; simp; omega)).up (((Up.refl _).alloc _).alloc _)).up hU1)
  have HC1 := hid (((Blk.new (g := o3) (t := 31) (by have := HO.out; have := HO1.out; have := HO2.out; have := HO3.out; have := HO4.out; simp; omega) rfl).up ((Up.refl _).alloc _)).up hU1)
  have HS1 := hid (((Blk.new (g := o4) (t := 33) (by have := HO.out; have := HO1.out; have := HO2.out; have := HO3.out; have := HO4.out; simp; omega) rfl)).up hU1)
  have HU1 := hid (((((((Up.refl w).alloc _).alloc _).alloc _).alloc _).alloc _).trans hU1)
  clear hU1
  rw [HO.out, HO1.out, HO2.out, HO3.out, HO4.out]
  obtain ⟨⟨lc0, lc1, lc2⟩, lc3, lc4, lc5⟩ := HA1.out
  obtain ⟨le0, le1, le2⟩ := HY1.out
  obtain ⟨⟨lb0, lb1, lb2⟩, lb3, lb4, lb5⟩ := HV1.out
  have ls0 := HS1.out.val (i := 0) rfl
  have ls1 := HS1.out.val (i := 1) rfl
  have ls2 := HS1.out.val (i := 2) rfl
  have ls3 := HS1.out.val (i := 3) rfl
  have t0 := cell_lt lc0
  have t1 := cell_lt le0
  have t2 := cell_lt lb0
  have t4 := cell_lt ls0
  go_wp2_with (first | refine wpList_load_row rfl 31 _ rfl o3 rfl 31 cs (0, 0) _ (HC1.out.alloc _) Tryz.underlying31 rfl HCz.out ?_ | refine wpList_load_rowG (by rfl) 31 _ rfl o3 rfl 31 cs (0, 0) _ (HC1.out.alloc _) Tryz.underlying31 rfl HCz.out ?_)
  obtain ⟨q1, hq1⟩ : ∃ q1, w1.heap.size = q1 := ⟨_, rfl⟩
  refine (M1.out _ (HU1.out.alloc _)).mono ?_
  rintro e w2 ⟨rfl, hU2⟩
  have HZ2 := hid (((Blk.new (w := w1) (g := q1) (t := 36) (cs := #[.int .i64 0, .int .i64 0, .int .i64 0]) hq1 rfl)).up hU2)
  have hU2 := ((Up.refl w1).alloc _).trans hU2
  have HA2 := hid (HA1.out.up hU2)
  have HY2 := hid (HY1.out.up hU2)
  have HV2 := hid (HV1.out.up hU2)
  have HC2 := hid (HC1.out.up hU2)
  have HS2 := hid (HS1.out.up hU2)
  have HU2 := hid (HU1.out.trans hU2)
  clear hU2 HA1 HY1 HV1 HC1 HS1 HU1 lc0 lc1 lc2 lc3 lc4 lc5 le0 le1 le2 lb0 lb1 lb2 lb3 lb4 lb5 ls0 ls1 ls2 ls3
  try rw [hq1]
  clear hq1 t0 t1 t2 t4 M1
  obtain ⟨⟨lc0, lc1, lc2⟩, lc3, lc4, lc5⟩ := HA2.out
  obtain ⟨le0, le1, le2⟩ := HY2.out
  obtain ⟨⟨lb0, lb1, lb2⟩, lb3, lb4, lb5⟩ := HV2.out
  have ls0 := HS2.out.val (i := 0) rfl
  have ls1 := HS2.out.val (i := 1) rfl
  have ls2 := HS2.out.val (i := 2) rfl
  have ls3 := HS2.out.val (i := 3) rfl
  have t0 := cell_lt lc0
  have t1 := cell_lt le0
  have t2 := cell_lt lb0
  have t4 := cell_lt ls0
  go_wp2_with (first | refine wpList_load_row rfl 31 _ rfl o3 rfl 31 cs (0, 0) _ (HC2.out.alloc _) Tryz.underlying31 rfl HCz.out ?_ | refine wpList_load_rowG (by rfl) 31 _ rfl o3 rfl 31 cs (0, 0) _ (HC2.out.alloc _) Tryz.underlying31 rfl HCz.out ?_)
  obtain ⟨q2, hq2⟩ : ∃ q2, w2.heap.size = q2 := ⟨_, rfl⟩
  refine (M2.out _ (HU2.out.alloc _)).mono ?_
  rintro e w3 ⟨rfl, hU3⟩
  have HT3 := hid (((Blk.new (w := w2) (g := q2) (t := 36) (cs := #[.int .i64 rs, .int .i64 ru, .int .i64 rv]) hq2 rfl)).up hU3)
  have hU3 := ((Up.refl w2).alloc _).trans hU3
  have HA3 := hid (HA2.out.up hU3)
  have HY3 := hid (HY2.out.up hU3)
  have HV3 := hid (HV2.out.up hU3)
  have HC3 := hid (HC2.out.up hU3)
  have HS3 := hid (HS2.out.up hU3)
  have HZ3 := hid (HZ2.out.up hU3)
  have HU3 := hid (HU2.out.trans hU3)
  clear hU3 HA2 HY2 HV2 HC2 HS2 HZ2 HU2 lc0 lc1 lc2 lc3 lc4 lc5 le0 le1 le2 lb0 lb1 lb2 lb3 lb4 lb5 ls0 ls1 ls2 ls3
  try rw [hq2]
  clear hq2 t0 t1 t2 t4 M2
  obtain ⟨⟨lc0, lc1, lc2⟩, lc3, lc4, lc5⟩ := HA3.out
  obtain ⟨le0, le1, le2⟩ := HY3.out
  obtain ⟨⟨lb0, lb1, lb2⟩, lb3, lb4, lb5⟩ := HV3.out
  have ls0 := HS3.out.val (i := 0) rfl
  have ls1 := HS3.out.val (i := 1) rfl
  have ls2 := HS3.out.val (i := 2) rfl
  have ls3 := HS3.out.val (i := 3) rfl
  go_wp2_with (first | refine wpList_load_row rfl 31 _ rfl o3 rfl 31 cs (0, 0) _ HC3.out Tryz.underlying31 rfl HCz.out ?_ | refine wpList_load_rowG (by rfl) 31 _ rfl o3 rfl 31 cs (0, 0) _ HC3.out Tryz.underlying31 rfl HCz.out ?_)
  refine (M3.out _ (HU3.out)).mono ?_
  rintro e w4 ⟨rfl, hU4⟩
  have HA4 := hid (HA3.out.up hU4)
  have HY4 := hid (HY3.out.up hU4)
  have HV4 := hid (HV3.out.up hU4)
  have HC4 := hid (HC3.out.up hU4)
  have HS4 := hid (HS3.out.up hU4)
  have HZ4 := hid (HZ3.out.up hU4)
  have HT4 := hid (HT3.out.up hU4)
  have HU4 := hid (HU3.out.trans hU4)
  clear hU4 HA3 HY3 HV3 HC3 HS3 HZ3 HT3 HU3 lc0 lc1 lc2 lc3 lc4 lc5 le0 le1 le2 lb0 lb1 lb2 lb3 lb4 lb5 ls0 ls1 ls2 ls3
  obtain ⟨⟨lc0, lc1, lc2⟩, lc3, lc4, lc5⟩ := HA4.out
  obtain ⟨⟨lb0, lb1, lb2⟩, lb3, lb4, lb5⟩ := HV4.out
  have ls0 := HS4.out.val (i := 0) rfl
  have ls1 := HS4.out.val (i := 1) rfl
  have ls2 := HS4.out.val (i := 2) rfl
  have ls3 := HS4.out.val (i := 3) rfl
  have lz0 := HZ4.out.val (i := 0) rfl
  have lz1 := HZ4.out.val (i := 1) rfl
  have lz2 := HZ4.out.val (i := 2) rfl
  have lt0 := HT4.out.val (i := 0) rfl
  have lt1 := HT4.out.val (i := 1) rfl
  have lt2 := HT4.out.val (i := 2) rfl
  clear M3
  by_cases hE : E = 0
  case neg =>
    have d : (E != 0) = true := by simpa using hE
    have d2 : (E == E) = true := by simp
    obtain rfl : 0 = N := by rw [← HNn.out, ucN, if_neg hE]
    obtain rfl : E = D := by rw [← HDd.out, ucE, if_neg hE]
    clear HNn HDd
    have h3 : ((0 : Int), (0 : Int), (0 : Int)) = (rs, ru, rv) := by rw [← HR3.out]; exact (ufT_fault hE).symm
    simp only [Prod.mk.injEq] at h3
    obtain ⟨rfl, rfl, rfl⟩ := h3
    obtain rfl : E = T := by rw [← HTt.out]; exact (ufE_fault hE).symm
    clear HR3 HTt
    clear hE
    go_wp2
    go_ret
    exact ⟨rfl, HU4.out⟩
  obtain ⟨hbv, ⟨hm, hz, hx, hy, hc, hr⟩, hp, hsz, hsa, hsb, hsr⟩ := HF.out hE
  subst hE
  have g := gv_iff.1 (bv_iff.1 hbv).1
  have g1 := g.P61
  have g2 := g.P4
  have g3 := g.Q3
  have g4 := g.QP
  have g5 := g.G2
  have g6 := g.GP
  obtain ⟨a1, a2, _⟩ := el_iff.1 (gn_el hm)
  obtain ⟨a3, a4, _⟩ := el_iff.1 hz
  obtain ⟨a5, a6, _⟩ := el_iff.1 hx
  obtain ⟨a7, a8, _⟩ := el_iff.1 hy
  obtain ⟨a9, a10⟩ := nzB_iff.1 hc
  obtain ⟨a11, a12⟩ := exB_iff.1 hr
  obtain ⟨a13, a14, _⟩ := el_iff.1 (gn_el hp)
  obtain ⟨a15, a16⟩ := exB_iff.1 hsr
  have Hbv := hid hbv
  have Hcc := hid hc
  clear Hbv Hcc
  have N4 := hid (fun (h : Q ≤ 113) w' => M4.out w' g1 (by omega) (by omega) (by omega) (by omega) g6 (by omega) a2 (by omega) a4 (by omega) a6 (by omega) a8 (by omega) a10 a11 a12 (by omega) a14 a15 a16 h)
  have N5 := hid (fun s u v w' => M5.out s u v w' g1 (by omega) (by omega) (by omega) (by omega) g6 (by omega) a2 (by omega) a4 (by omega) a6 (by omega) a8 (by omega) a10 a11 a12 (by omega) a14)
  have N6 := hid (fun (h : Q ≤ 1048576) w' => M6.out w' g1 (by omega) (by omega) (by omega) (by omega) g6 (by omega) a2 (by omega) a4 (by omega) a6 (by omega) a8 (by omega) a10 a11 a12 (by omega) a14 a15 a16 (Ht.out rfl h).1 (Ht.out rfl h).2.1 (Ht.out rfl h).2.2)
  clear hbv hm hz hx hy hc hr hp hsz hsa hsb hsr g g1 g2 g3 g4 g5 g6 a1 a2 a3 a4 a5 a6 a7 a8 a9 a10 a11 a12 a13 a14 a15 a16 HF M4 M5 M6
  by_cases hq : Q > 113
  case pos =>
    have d1 : decide (Q > 113) = true := by simpa using hq
    obtain rfl : 0 = N := by rw [← HNn.out, ucN, if_pos rfl, if_pos hq]
    obtain rfl : 9 = D := by rw [← HDd.out, ucE, if_pos rfl, if_pos hq]
    clear HNn HDd N4
    by_cases hq2 : Q > 1048576
    case pos =>
      have d2 : decide (Q > 1048576) = true := by simpa using hq2
      have h3 : ((0 : Int), (0 : Int), (0 : Int)) = (rs, ru, rv) := by rw [← HR3.out]; exact (ufT_big rfl hq2).symm
      simp only [Prod.mk.injEq] at h3
      obtain ⟨rfl, rfl, rfl⟩ := h3
      obtain rfl : 9 = T := by rw [← HTt.out]; exact (ufE_big rfl hq2).symm
      clear HR3 HTt
      clear hq hq2 N5 N6
      go_wp2
      go_ret
      exact ⟨rfl, HU4.out⟩
    have d2 : decide (Q > 1048576) = false := by simpa using hq2
    have HQb : Hid (Q ≤ 1048576) := hid (by omega)
    by_cases hq3 : Q > 20000
    case pos =>
      have d3 : decide (Q > 20000) = true := by simpa using hq3
      clear hq hq2 hq3 N6
      cases O with
      | none =>
        have h3 : ((0 : Int), (0 : Int), (0 : Int)) = (rs, ru, rv) := by rw [← HR3.out]; exact (ufT_none rfl HQb.out rfl).symm
        simp only [Prod.mk.injEq] at h3
        obtain ⟨rfl, rfl, rfl⟩ := h3
        obtain rfl : 7 = T := by rw [← HTt.out]; exact (ufE_none rfl HQb.out rfl).symm
        clear HR3 HTt
        clear N5 HQb
        go_wp2
        go_ret
        exact ⟨rfl, HU4.out⟩
      | some X =>
        obtain ⟨s, u, v⟩ := X
        have h3 : (s, u, v) = (rs, ru, rv) := by rw [← HR3.out]; exact (ufT_some rfl HQb.out rfl).symm
        simp only [Prod.mk.injEq] at h3
        obtain ⟨rfl, rfl, rfl⟩ := h3
        obtain rfl : 0 = T := by rw [← HTt.out]; exact (ufE_some rfl HQb.out rfl).symm
        clear HR3 HTt
        have N8 := hid (fun w' => N5.out s u v w')
        have hf := HFt.out s u v rfl
        rw [hf] at N8
        clear N5 HQb hf
        go_wp2_with (first | refine wpList_load_row rfl 31 _ rfl o3 rfl 31 cs (0, 0) _ HC4.out Tryz.underlying31 rfl HCz.out ?_ | refine wpList_load_rowG (by rfl) 31 _ rfl o3 rfl 31 cs (0, 0) _ HC4.out Tryz.underlying31 rfl HCz.out ?_)
        refine (N8.out _).mono ?_
        rintro e w5 ⟨rfl, hU5⟩
        have HA5 := hid (HA4.out.up hU5)
        have HY5 := hid (HY4.out.up hU5)
        have HV5 := hid (HV4.out.up hU5)
        have HC5 := hid (HC4.out.up hU5)
        have HS5 := hid (HS4.out.up hU5)
        have HZ5 := hid (HZ4.out.up hU5)
        have HT5 := hid (HT4.out.up hU5)
        have HU5 := hid (HU4.out.trans hU5)
        clear hU5 HA4 HY4 HV4 HC4 HS4 HZ4 HT4 HU4 lc0 lc1 lc2 lc3 lc4 lc5 lb0 lb1 lb2 lb3 lb4 lb5 ls0 ls1 ls2 ls3 lz0 lz1 lz2 lt0 lt1 lt2
        have lz0 := HZ5.out.val (i := 0) rfl
        have lz1 := HZ5.out.val (i := 1) rfl
        have lz2 := HZ5.out.val (i := 2) rfl
        have lt0 := HT5.out.val (i := 0) rfl
        have lt1 := HT5.out.val (i := 1) rfl
        have lt2 := HT5.out.val (i := 2) rfl
        go_wp2
        go_ret
        exact ⟨rfl, HU5.out⟩
    have d3 : decide (Q > 20000) = false := by simpa using hq3
    clear N5
    have hQs : Q ≤ 1048576 := by omega
    clear hq hq2 hq3
    cases O with
    | none =>
      have N7 := hid (fun w' => N6.out hQs w')
      dsimp only [oT, Option.isSome] at N7
      clear N6 hQs
      have h3 : ((0 : Int), (0 : Int), (0 : Int)) = (rs, ru, rv) := by rw [← HR3.out]; exact (ufT_none rfl HQb.out rfl).symm
      simp only [Prod.mk.injEq] at h3
      obtain ⟨rfl, rfl, rfl⟩ := h3
      obtain rfl : 7 = T := by rw [← HTt.out]; exact (ufE_none rfl HQb.out rfl).symm
      clear HR3 HTt
      go_wp2_with (first | refine wpList_load_row rfl 31 _ rfl o3 rfl 31 cs (0, 0) _ HC4.out Tryz.underlying31 rfl HCz.out ?_ | refine wpList_load_rowG (by rfl) 31 _ rfl o3 rfl 31 cs (0, 0) _ HC4.out Tryz.underlying31 rfl HCz.out ?_)
      refine (N7.out _).mono ?_
      rintro e w5 ⟨rfl, hU5⟩
      have HA5 := hid (HA4.out.up hU5)
      have HY5 := hid (HY4.out.up hU5)
      have HV5 := hid (HV4.out.up hU5)
      have HC5 := hid (HC4.out.up hU5)
      have HS5 := hid (HS4.out.up hU5)
      have HZ5 := hid (HZ4.out.up hU5)
      have HT5 := hid (HT4.out.up hU5)
      have HU5 := hid (HU4.out.trans hU5)
      clear hU5 HA4 HY4 HV4 HC4 HS4 HZ4 HT4 HU4 lc0 lc1 lc2 lc3 lc4 lc5 lb0 lb1 lb2 lb3 lb4 lb5 ls0 ls1 ls2 ls3 lz0 lz1 lz2 lt0 lt1 lt2
      have lz0 := HZ5.out.val (i := 0) rfl
      have lz1 := HZ5.out.val (i := 1) rfl
      have lz2 := HZ5.out.val (i := 2) rfl
      have lt0 := HT5.out.val (i := 0) rfl
      have lt1 := HT5.out.val (i := 1) rfl
      have lt2 := HT5.out.val (i := 2) rfl
      have t0 := cell_lt lz0
      have t1 := cell_lt lt0
      go_wp2
      go_ret
      exact ⟨rfl, HU5.out.alloc _⟩
    | some X =>
      obtain ⟨s, u, v⟩ := X
      have N7 := hid (fun w' => N6.out hQs w')
      dsimp only [oT, Option.isSome] at N7
      clear N6 hQs
      have h3 : (s, u, v) = (rs, ru, rv) := by rw [← HR3.out]; exact (ufT_some rfl HQb.out rfl).symm
      simp only [Prod.mk.injEq] at h3
      obtain ⟨rfl, rfl, rfl⟩ := h3
      obtain rfl : 0 = T := by rw [← HTt.out]; exact (ufE_some rfl HQb.out rfl).symm
      clear HR3 HTt
      go_wp2_with (first | refine wpList_load_row rfl 31 _ rfl o3 rfl 31 cs (0, 0) _ HC4.out Tryz.underlying31 rfl HCz.out ?_ | refine wpList_load_rowG (by rfl) 31 _ rfl o3 rfl 31 cs (0, 0) _ HC4.out Tryz.underlying31 rfl HCz.out ?_)
      refine (N7.out _).mono ?_
      rintro e w5 ⟨rfl, hU5⟩
      have HA5 := hid (HA4.out.up hU5)
      have HY5 := hid (HY4.out.up hU5)
      have HV5 := hid (HV4.out.up hU5)
      have HC5 := hid (HC4.out.up hU5)
      have HS5 := hid (HS4.out.up hU5)
      have HZ5 := hid (HZ4.out.up hU5)
      have HT5 := hid (HT4.out.up hU5)
      have HU5 := hid (HU4.out.trans hU5)
      clear hU5 HA4 HY4 HV4 HC4 HS4 HZ4 HT4 HU4 lc0 lc1 lc2 lc3 lc4 lc5 lb0 lb1 lb2 lb3 lb4 lb5 ls0 ls1 ls2 ls3 lz0 lz1 lz2 lt0 lt1 lt2
      have lz0 := HZ5.out.val (i := 0) rfl
      have lz1 := HZ5.out.val (i := 1) rfl
      have lz2 := HZ5.out.val (i := 2) rfl
      have lt0 := HT5.out.val (i := 0) rfl
      have lt1 := HT5.out.val (i := 1) rfl
      have lt2 := HT5.out.val (i := 2) rfl
      have t0 := cell_lt lz0
      have t1 := cell_lt lt0
      go_wp2
      go_ret
      exact ⟨rfl, HU5.out.alloc _⟩
  have d1 : decide (Q > 113) = false := by simpa using hq
  have d2 : decide (Q > 1048576) = false := by simp; omega
  have d3 : decide (Q > 20000) = false := by simp; omega
  have hQs : Q ≤ 1048576 := by omega
  have HQb : Hid (Q ≤ 1048576) := hid (by omega)
  obtain rfl : (n : Int) = N := by rw [← HNn.out, ucN, if_pos rfl, if_neg hq]
  obtain rfl : 0 = D := by rw [← HDd.out, ucE, if_pos rfl, if_neg hq]
  have N9 := hid (fun w' => N4.out (by omega) w')
  have dn : ((n : Int) != n) = false := by simp
  clear HNn HDd N4 N5 hq
  go_wp2_with (first | refine wpList_load_row rfl 31 _ rfl o3 rfl 31 cs (0, 0) _ HC4.out Tryz.underlying31 rfl HCz.out ?_ | refine wpList_load_rowG (by rfl) 31 _ rfl o3 rfl 31 cs (0, 0) _ HC4.out Tryz.underlying31 rfl HCz.out ?_)
  refine (N9.out _).mono ?_
  rintro e w5 ⟨rfl, hU5⟩
  have HA5 := hid (HA4.out.up hU5)
  have HY5 := hid (HY4.out.up hU5)
  have HV5 := hid (HV4.out.up hU5)
  have HC5 := hid (HC4.out.up hU5)
  have HS5 := hid (HS4.out.up hU5)
  have HZ5 := hid (HZ4.out.up hU5)
  have HT5 := hid (HT4.out.up hU5)
  have HU5 := hid (HU4.out.trans hU5)
  clear hU5 HA4 HY4 HV4 HC4 HS4 HZ4 HT4 HU4 lc0 lc1 lc2 lc3 lc4 lc5 lb0 lb1 lb2 lb3 lb4 lb5 ls0 ls1 ls2 ls3 lz0 lz1 lz2 lt0 lt1 lt2
  obtain ⟨⟨lc0, lc1, lc2⟩, lc3, lc4, lc5⟩ := HA5.out
  obtain ⟨⟨lb0, lb1, lb2⟩, lb3, lb4, lb5⟩ := HV5.out
  have ls0 := HS5.out.val (i := 0) rfl
  have ls1 := HS5.out.val (i := 1) rfl
  have ls2 := HS5.out.val (i := 2) rfl
  have ls3 := HS5.out.val (i := 3) rfl
  have lz0 := HZ5.out.val (i := 0) rfl
  have lz1 := HZ5.out.val (i := 1) rfl
  have lz2 := HZ5.out.val (i := 2) rfl
  have lt0 := HT5.out.val (i := 0) rfl
  have lt1 := HT5.out.val (i := 1) rfl
  have lt2 := HT5.out.val (i := 2) rfl
  cases O with
  | none =>
    have N7 := hid (fun w' => N6.out hQs w')
    dsimp only [oT, Option.isSome] at N7
    clear N6 hQs
    have h3 : ((0 : Int), (0 : Int), (0 : Int)) = (rs, ru, rv) := by rw [← HR3.out]; exact (ufT_none rfl HQb.out rfl).symm
    simp only [Prod.mk.injEq] at h3
    obtain ⟨rfl, rfl, rfl⟩ := h3
    obtain rfl : 7 = T := by rw [← HTt.out]; exact (ufE_none rfl HQb.out rfl).symm
    clear HR3 HTt
    go_wp2_with (first | refine wpList_load_row rfl 31 _ rfl o3 rfl 31 cs (0, 0) _ HC5.out Tryz.underlying31 rfl HCz.out ?_ | refine wpList_load_rowG (by rfl) 31 _ rfl o3 rfl 31 cs (0, 0) _ HC5.out Tryz.underlying31 rfl HCz.out ?_)
    refine (N7.out _).mono ?_
    rintro e w6 ⟨rfl, hU6⟩
    have HA6 := hid (HA5.out.up hU6)
    have HY6 := hid (HY5.out.up hU6)
    have HV6 := hid (HV5.out.up hU6)
    have HC6 := hid (HC5.out.up hU6)
    have HS6 := hid (HS5.out.up hU6)
    have HZ6 := hid (HZ5.out.up hU6)
    have HT6 := hid (HT5.out.up hU6)
    have HU6 := hid (HU5.out.trans hU6)
    clear hU6 HA5 HY5 HV5 HC5 HS5 HZ5 HT5 HU5 lc0 lc1 lc2 lc3 lc4 lc5 lb0 lb1 lb2 lb3 lb4 lb5 ls0 ls1 ls2 ls3 lz0 lz1 lz2 lt0 lt1 lt2
    have lz0 := HZ6.out.val (i := 0) rfl
    have lz1 := HZ6.out.val (i := 1) rfl
    have lz2 := HZ6.out.val (i := 2) rfl
    have lt0 := HT6.out.val (i := 0) rfl
    have lt1 := HT6.out.val (i := 1) rfl
    have lt2 := HT6.out.val (i := 2) rfl
    have t0 := cell_lt lz0
    have t1 := cell_lt lt0
    go_wp2
    go_ret
    exact ⟨rfl, HU6.out.alloc _⟩
  | some X =>
    obtain ⟨s, u, v⟩ := X
    have N7 := hid (fun w' => N6.out hQs w')
    dsimp only [oT, Option.isSome] at N7
    clear N6 hQs
    have h3 : (s, u, v) = (rs, ru, rv) := by rw [← HR3.out]; exact (ufT_some rfl HQb.out rfl).symm
    simp only [Prod.mk.injEq] at h3
    obtain ⟨rfl, rfl, rfl⟩ := h3
    obtain rfl : 0 = T := by rw [← HTt.out]; exact (ufE_some rfl HQb.out rfl).symm
    clear HR3 HTt
    go_wp2_with (first | refine wpList_load_row rfl 31 _ rfl o3 rfl 31 cs (0, 0) _ HC5.out Tryz.underlying31 rfl HCz.out ?_ | refine wpList_load_rowG (by rfl) 31 _ rfl o3 rfl 31 cs (0, 0) _ HC5.out Tryz.underlying31 rfl HCz.out ?_)
    refine (N7.out _).mono ?_
    rintro e w6 ⟨rfl, hU6⟩
    have HA6 := hid (HA5.out.up hU6)
    have HY6 := hid (HY5.out.up hU6)
    have HV6 := hid (HV5.out.up hU6)
    have HC6 := hid (HC5.out.up hU6)
    have HS6 := hid (HS5.out.up hU6)
    have HZ6 := hid (HZ5.out.up hU6)
    have HT6 := hid (HT5.out.up hU6)
    have HU6 := hid (HU5.out.trans hU6)
    clear hU6 HA5 HY5 HV5 HC5 HS5 HZ5 HT5 HU5 lc0 lc1 lc2 lc3 lc4 lc5 lb0 lb1 lb2 lb3 lb4 lb5 ls0 ls1 ls2 ls3 lz0 lz1 lz2 lt0 lt1 lt2
    have lz0 := HZ6.out.val (i := 0) rfl
    have lz1 := HZ6.out.val (i := 1) rfl
    have lz2 := HZ6.out.val (i := 2) rfl
    have lt0 := HT6.out.val (i := 0) rfl
    have lt1 := HT6.out.val (i := 1) rfl
    have lt2 := HT6.out.val (i := 2) rfl
    have t0 := cell_lt lz0
    have t1 := cell_lt lt0
    go_wp2
    go_ret
    exact ⟨rfl, HU6.out.alloc _⟩
end Go.Proofs.YtdbhleinhpiohaaGreatDoor
namespace Go.Proofs.YtdbhleinhpiohaaGreatDoor.lawUnlinkFactors
open Go.Proofs.YtdbhleinhpiohaaGreatDoor
theorem fact1 : (Rows.unlinkFactorsRow.wf (OpenSpec.ofChange (OpenSpec.ofChange Rows.unlinkFactorsSpec).bare) : Bool) = true := by kernel_rfl
theorem fact2 : (laidOutB Tryz.pinned.checked.prog : Bool) = true := by kernel_rfl
theorem fact3 : (mapsRowed Tryz.pinned.checked.prog : Bool) = true := by kernel_rfl
theorem fact4 : (Tryz.f3.params.all (Tryz.pinned.checked.prog.readableRec ·) : Bool) = true := by kernel_rfl
theorem fact5 : (namedTie Tryz.pinned.checked.prog Rows.unlinkFactorsRow.named (OpenSpec.ofChange Rows.unlinkFactorsSpec).bare.vars : Bool) = true := by kernel_rfl
theorem fact6 : ((Rows.unlinkFactorsRow.stops == []) : Bool) = true := by kernel_rfl
theorem fact7 : ((Tryz.pinned.checked.prog.stops == []) : Bool) = true := by kernel_rfl
theorem fact8 : ((Rows.unlinkFactorsRow.knobs == []) : Bool) = true := by kernel_rfl
theorem fact9 : ((Tryz.pinned.checked.prog.stopKnobs == []) : Bool) = true := by kernel_rfl
theorem fact10 : ((Rows.unlinkFactorsRow.inPlace == Tryz.pinned.checked.prog.inPlace 3) : Bool) = true := by kernel_rfl
theorem fact11 : ((Rows.unlinkFactorsRow.unfollowed == Tryz.pinned.checked.prog.unfollowed 3) : Bool) = true := by kernel_rfl
theorem fact12 : ((Rows.unlinkFactorsRow.recurses == Tryz.pinned.checked.prog.recurses 3) : Bool) = true := by kernel_rfl
theorem fact13 : ((Rows.unlinkFactorsRow.named == Tryz.pinned.checked.prog.varsNamed 3) : Bool) = true := by kernel_rfl
theorem fact14 : ((Rows.unlinkFactorsRow.maps == (Tryz.f3.params.toList ++ (OpenSpec.ofChange Rows.unlinkFactorsSpec).bare.plain.varTypes Tryz.pinned.checked.prog).any (Tryz.pinned.checked.prog.mapsRec ·)) : Bool) = true := by kernel_rfl
theorem fact15 : ((Rows.unlinkFactorsRow.ifaces == (Tryz.f3.params.toList ++ (OpenSpec.ofChange Rows.unlinkFactorsSpec).bare.plain.varTypes Tryz.pinned.checked.prog).any (Tryz.pinned.checked.prog.ifacesRec ·)) : Bool) = true := by kernel_rfl
theorem fact16 : ((Rows.unlinkFactorsRow.mapsOut == Tryz.pinned.checked.prog.mapsAmong Tryz.f3.resultTypes.toList) : Bool) = true := by kernel_rfl
theorem fact17 : ((Rows.unlinkFactorsRow.loops == (Tryz.f3.params.toList ++ (OpenSpec.ofChange Rows.unlinkFactorsSpec).bare.plain.varTypes Tryz.pinned.checked.prog).any (Tryz.pinned.checked.prog.loopsFrom ·)) : Bool) = true := by kernel_rfl
theorem fact18 : ((Rows.unlinkFactorsRow.wideKeys == (Tryz.f3.params.toList ++ (OpenSpec.ofChange Rows.unlinkFactorsSpec).bare.plain.varTypes Tryz.pinned.checked.prog ++ Tryz.f3.resultTypes.toList).any (Tryz.pinned.checked.prog.wideKeysFrom ·)) : Bool) = true := by kernel_rfl
theorem fact19 : ((OpenSpec.ofChange Rows.unlinkFactorsSpec).bare.vars.all (Tryz.pinned.checked.prog.varReadable ·) : Bool) = true := by kernel_rfl
theorem fact20 : (Tryz.f3.resultTypes.all (fun t => Tryz.pinned.checked.prog.readableRec t && decide (t < Tryz.pinned.checked.prog.types.size)) : Bool) = true := by kernel_rfl
theorem fact21 : ((Rows.unlinkFactorsRow.ifacesOut == Tryz.f3.resultTypes.toList.any (Tryz.pinned.checked.prog.ifacesRec ·)) : Bool) = true := by kernel_rfl
theorem fact22 : ((Rows.unlinkFactorsRow.loopsOut == Tryz.f3.resultTypes.toList.any (Tryz.pinned.checked.prog.loopsFrom ·)) : Bool) = true := by kernel_rfl
theorem fact23 : ((Rows.unlinkFactorsRow.plainKeys == Tryz.pinned.checked.prog.plainKeys) : Bool) = true := by kernel_rfl
theorem fact24 : (Rows.unlinkFactorsRow.shortTexts.isNone : Bool) = true := by kernel_rfl
theorem fact25 : (Tryz.pinned.checked.prog.stopsHeard : Bool) = true := by kernel_rfl
theorem fact26 : (Tryz.pinned.checked.prog.mayEnter : Bool) = true := by kernel_rfl
theorem fact27 : ((Rows.unlinkFactorsRow.lifted == Tryz.pinned.checked.prog.liftsFinal) : Bool) = true := by kernel_rfl
theorem fact28 : ((Tryz.pinned.checked.prog.make == some Rows.unlinkFactorsRow.make) : Bool) = true := by kernel_rfl
theorem fact29 : ((Rows.unlinkFactorsRow.kinds == (if Rows.unlinkFactorsRow.domain.isEmpty then [] else Tryz.f3.params.toList.map fun t => match Tryz.pinned.checked.prog.underlying t with | some (.int k) => some k | _ => none)) : Bool) = true := by kernel_rfl
theorem fact30 : ((Rows.unlinkFactorsRow.pinned == Rows.unlinkFactorsRow.pinnedBy) : Bool) = true := by kernel_rfl
theorem fact31 : ((Rows.unlinkFactorsRow.veiled == (Tryz.f3.params.toList ++ (OpenSpec.ofChange Rows.unlinkFactorsSpec).bare.plain.varTypes Tryz.pinned.checked.prog ++ Tryz.f3.resultTypes.toList).any (Tryz.pinned.checked.prog.veiledRec ·)) : Bool) = true := by kernel_rfl
theorem fact32 : (Rows.unlinkFactorsRow.veiledFits Tryz.pinned.checked.prog Tryz.f3.params.toList (Tryz.f3.params.toList ++ (OpenSpec.ofChange Rows.unlinkFactorsSpec).bare.plain.varTypes Tryz.pinned.checked.prog ++ Tryz.f3.resultTypes.toList) : Bool) = true := by kernel_rfl
theorem andB {a b : Bool} (h : a = true) (k : b = true) : (a && b) = true := by rw [h, k]; rfl
set_option maxRecDepth 100000 in
theorem closed : joinedFacts Tryz.pinned.checked.prog 3 Tryz.f3 (OpenSpec.ofChange Rows.unlinkFactorsSpec).bare Rows.unlinkFactorsRow = true := by
  unfold joinedFacts
  exact (andB (andB (andB (andB (andB (andB (andB (andB (andB (andB (andB (andB (andB (andB (andB (andB (andB (andB (andB (andB (andB (andB (andB (andB (andB (andB (andB (andB (andB (andB (andB fact1 fact2) fact3) fact4) fact5) fact6) fact7) fact8) fact9) fact10) fact11) fact12) fact13) fact14) fact15) fact16) fact17) fact18) fact19) fact20) fact21) fact22) fact23) fact24) fact25) fact26) fact27) fact28) fact29) fact30) fact31) fact32)
end Go.Proofs.YtdbhleinhpiohaaGreatDoor.lawUnlinkFactors
