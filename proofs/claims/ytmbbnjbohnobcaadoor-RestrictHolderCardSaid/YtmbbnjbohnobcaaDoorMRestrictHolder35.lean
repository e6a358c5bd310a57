/- Package restrict: Blind. RestrictKeys: the example of the chapter, and the walk. -/
import Derived.Test.YtmbbnjbohnobcaaDoorMRestrictHolder34
import Derived.Test.YtmbbnjbohnobcaaDoorMRestrictHolder19
import Derived.Test.YtmbbnjbohnobcaaDoorMRestrictHolder27
namespace Go.Proofs.YtmbbnjbohnobcaaDoor
open Go.RowKit Go.Sp
set_option maxHeartbeats 4000000
set_option maxRecDepth 20000

/-- What Blind returns, as far as the holder asks. -/
def BlindOut (P m s : Int) (w : World) (e : Ending) (w' : World) : Prop :=
  ∃ p' a b c d c' e' : Int, e = .returned (.tuple #[.int .i64 p', sgn a b c d, .int .i64 c', .int .i64 e']) ∧ Up w w' ∧ (e' = 0 → p' = pwi P m s) ∧ (e' = 0 ∨ e' = 10)

theorem results_tmp_row_tmp2 {P : Program} {fn : Func} {q p u v : Tmp} {ty : TypeId} (h : fn.results = #[.tmp q, .cell p ty, .tmp u, .tmp v]) (tmps : Array Value) (w : World) (g : Nat) (t : TypeId) (cs : Array Value) (fr : Nat × Nat) (d : TypeDesc)
    (hp : tmps.getD p undef = .pointer (some ⟨g, 0, none⟩)) (hg : w.heap[g]? = some (.cells cs t fr))
    (hu : P.underlying ty = some d) (hd : (match d with | .struct _ | .array _ _ => true | _ => false) = true) (hi : (P.info? ty).map (·.size) = some cs.size) :
    (results fn tmps).run P w = .ok (.tuple #[tmps.getD q undef, .agg cs, tmps.getD u undef, tmps.getD v undef]) w := by
  have hp' : tmps[p]?.getD undef = .pointer (some ⟨g, 0, none⟩) := by simpa using hp
  simp only [results, h]
  simp [Result.andThen, hp', asAddr, run_loadVar_row w g t ty cs fr d hg hu hd hi]

/-- The boxes of Blind. -/
def BlindAt (w : World) (o : Nat) (P Q G A B C vm z a b vc vr s u v : Int) (cs : Array Value) (x0 x1 x2 x3 : Int) : Prop :=
  BasAt w o P Q G A B C ∧ BasAt w (o + 1) vm z a b vc vr ∧ Blk w (o + 2) 67 cs ∧ GrpAt w (o + 3) s u v ∧ Blk w (o + 4) 58 #[.int .i64 x0, .int .i64 x1, .int .i64 x2, .int .i64 x3]
theorem BlindAt.up {w w' : World} {o : Nat} {P Q G A B C vm z a b vc vr s u v : Int} {cs : Array Value} {x0 x1 x2 x3 : Int} (h : BlindAt w o P Q G A B C vm z a b vc vr s u v cs x0 x1 x2 x3) (hU : Up w w') : BlindAt w' o P Q G A B C vm z a b vc vr s u v cs x0 x1 x2 x3 :=
  ⟨h.1.up hU, h.2.1.up hU, h.2.2.1.up hU, h.2.2.2.1.up hU, h.2.2.2.2.up hU⟩

/-- What the loads of Blind's region read. -/
def BlS (w0 : World) (o o1 o3 : Nat) (P Q G A B C z a b s u v : Int) (w : World) : Prop :=
  w.cell? ⟨o, 0, none⟩ = some (.int .i64 P) ∧ w.cell? ⟨o, 1, none⟩ = some (.int .i64 Q) ∧ w.cell? ⟨o, 2, none⟩ = some (.int .i64 G) ∧ w.cell? ⟨o, 3, none⟩ = some (.int .i64 A) ∧ w.cell? ⟨o, 4, none⟩ = some (.int .i64 B) ∧ w.cell? ⟨o, 5, none⟩ = some (.int .i64 C) ∧
  w.cell? ⟨o1, 1, none⟩ = some (.int .i64 z) ∧ w.cell? ⟨o1, 2, none⟩ = some (.int .i64 a) ∧ w.cell? ⟨o1, 3, none⟩ = some (.int .i64 b) ∧
  w.cell? ⟨o3, 0, none⟩ = some (.int .i64 s) ∧ w.cell? ⟨o3, 1, none⟩ = some (.int .i64 u) ∧ w.cell? ⟨o3, 2, none⟩ = some (.int .i64 v) ∧ Hid (Up w0 w)
theorem BlS.up {w0 w w' : World} {o o1 o3 : Nat} {P Q G A B C z a b s u v : Int} (hU : Up w w') (h : BlS w0 o o1 o3 P Q G A B C z a b s u v w) : BlS w0 o o1 o3 P Q G A B C z a b s u v w' := by
  obtain ⟨h0, h1, h2, h3, h4, h5, h6, h7, h8, h9, h10, h11, hH⟩ := h
  exact ⟨cellUp hU h0, cellUp hU h1, cellUp hU h2, cellUp hU h3, cellUp hU h4, cellUp hU h5, cellUp hU h6, cellUp hU h7, cellUp hU h8, cellUp hU h9, cellUp hU h10, cellUp hU h11, hid (hH.out.trans hU)⟩
theorem BlS.store {w0 w w' : World} {o o1 o3 o4 : Nat} {P Q G A B C z a b s u v : Int} {x y x2 x3 : Value} (n0 : o ≠ o4) (n1 : o1 ≠ o4) (n3 : o3 ≠ o4) (hb : w0.heap.size ≤ o4)
    (hw : w' = (((w.setCell ⟨o4, 0, none⟩ x).setCell ⟨o4, 1, none⟩ y).setCell ⟨o4, 2, none⟩ x2).setCell ⟨o4, 3, none⟩ x3) (h : BlS w0 o o1 o3 P Q G A B C z a b s u v w) : BlS w0 o o1 o3 P Q G A B C z a b s u v w' := by
  subst hw
  obtain ⟨h0, h1, h2, h3, h4, h5, h6, h7, h8, h9, h10, h11, hH⟩ := h
  have key : ∀ q i, q ≠ o4 → ((((w.setCell ⟨o4, 0, none⟩ x).setCell ⟨o4, 1, none⟩ y).setCell ⟨o4, 2, none⟩ x2).setCell ⟨o4, 3, none⟩ x3).cell? ⟨q, i, none⟩ = w.cell? ⟨q, i, none⟩ := fun q i hq => by
    rw [World.cell?_setCell_other, World.cell?_setCell_other, World.cell?_setCell_other, World.cell?_setCell_other] <;> exact fun h => hq (congrArg Addr.block h).symm
  refine ⟨(key _ _ n0).trans h0, (key _ _ n0).trans h1, (key _ _ n0).trans h2, (key _ _ n0).trans h3, (key _ _ n0).trans h4, (key _ _ n0).trans h5, (key _ _ n1).trans h6, (key _ _ n1).trans h7, (key _ _ n1).trans h8, (key _ _ n3).trans h9, (key _ _ n3).trans h10, (key _ _ n3).trans h11, hid ((((hH.out.setCell ?_ _).setCell ?_ _).setCell ?_ _).setCell ?_ _)⟩ <;> exact hb
theorem BlS.kept {w0 w : World} {o o1 o3 : Nat} {P Q G A B C z a b s u v : Int} (h : BlS w0 o o1 o3 P Q G A B C z a b s u v w) : Up w0 w := h.2.2.2.2.2.2.2.2.2.2.2.2.out

/-- What the loads of Blind's last region read. -/
def BkS (w0 : World) (o o4 : Nat) (P Q G A B C x0 x1 x2 x3 : Int) (w : World) : Prop :=
  w.cell? ⟨o, 0, none⟩ = some (.int .i64 P) ∧ w.cell? ⟨o, 1, none⟩ = some (.int .i64 Q) ∧ w.cell? ⟨o, 2, none⟩ = some (.int .i64 G) ∧ w.cell? ⟨o, 3, none⟩ = some (.int .i64 A) ∧ w.cell? ⟨o, 4, none⟩ = some (.int .i64 B) ∧ w.cell? ⟨o, 5, none⟩ = some (.int .i64 C) ∧
  w.cell? ⟨o4, 0, none⟩ = some (.int .i64 x0) ∧ w.cell? ⟨o4, 1, none⟩ = some (.int .i64 x1) ∧ w.cell? ⟨o4, 2, none⟩ = some (.int .i64 x2) ∧ w.cell? ⟨o4, 3, none⟩ = some (.int .i64 x3) ∧ Hid (Up w0 w) ∧ Hid (Blk w o4 58 #[.int .i64 x0, .int .i64 x1, .int .i64 x2, .int .i64 x3])
theorem BkS.up {w0 w w' : World} {o o4 : Nat} {P Q G A B C x0 x1 x2 x3 : Int} (hU : Up w w') (h : BkS w0 o o4 P Q G A B C x0 x1 x2 x3 w) : BkS w0 o o4 P Q G A B C x0 x1 x2 x3 w' := by
  obtain ⟨h0, h1, h2, h3, h4, h5, h6, h7, h8, h9, hH, hK⟩ := h
  exact ⟨cellUp hU h0, cellUp hU h1, cellUp hU h2, cellUp hU h3, cellUp hU h4, cellUp hU h5, cellUp hU h6, cellUp hU h7, cellUp hU h8, cellUp hU h9, hid (hH.out.trans hU), hid (hK.out.up hU)⟩
theorem BkS.store {w0 w w' : World} {o o4 : Nat} {P Q G A B C x0 x1 x2 x3 : Int} (n0 : o ≠ o4) (hb : w0.heap.size ≤ o4)
    (hw : w' = (((w.setCell ⟨o4, 0, none⟩ (.int .i64 x0)).setCell ⟨o4, 1, none⟩ (.int .i64 x1)).setCell ⟨o4, 2, none⟩ (.int .i64 x2)).setCell ⟨o4, 3, none⟩ (.int .i64 x3)) (h : BkS w0 o o4 P Q G A B C x0 x1 x2 x3 w) : BkS w0 o o4 P Q G A B C x0 x1 x2 x3 w' := by
  subst hw
  obtain ⟨h0, h1, h2, h3, h4, h5, _, _, _, _, hH, hK⟩ := h
  have key : ∀ q i, q ≠ o4 → ((((w.setCell ⟨o4, 0, none⟩ (.int .i64 x0)).setCell ⟨o4, 1, none⟩ (.int .i64 x1)).setCell ⟨o4, 2, none⟩ (.int .i64 x2)).setCell ⟨o4, 3, none⟩ (.int .i64 x3)).cell? ⟨q, i, none⟩ = w.cell? ⟨q, i, none⟩ := fun q i hq => by
    rw [World.cell?_setCell_other, World.cell?_setCell_other, World.cell?_setCell_other, World.cell?_setCell_other] <;> exact fun h => hq (congrArg Addr.block h).symm
  have hB := blk_four hK.out (.int .i64 x0) (.int .i64 x1) (.int .i64 x2) (.int .i64 x3)
  refine ⟨(key _ _ n0).trans h0, (key _ _ n0).trans h1, (key _ _ n0).trans h2, (key _ _ n0).trans h3, (key _ _ n0).trans h4, (key _ _ n0).trans h5, hB.val rfl, hB.val rfl, hB.val rfl, hB.val rfl, hid ((((hH.out.setCell ?_ _).setCell ?_ _).setCell ?_ _).setCell ?_ _), hid hB⟩ <;> exact hb

theorem resBlind_ok (P Q G A B C m vm z a b vc vr s u v : Int) (root : Nat → Int) (w : World) (hT : Tab w) (hS : TabS w) (hR : Byt root) (hg : bvB P Q G A B C = true) (hm : gnB P Q m = true) (hz : elB P Q z = true) (ha : elB P Q a = true) (hb : elB P Q b = true) (hf : facB Q s u v = true) :
    Calls Tryd.prog 52 #[bas P Q G A B C, .int .i64 m, vw vm z a b vc vr, hashV root, .agg #[.int .i64 s, .int .i64 u, .int .i64 v]] w (BlindOut P m s w) := by
  have HT := hid hT
  have HS := hid hS
  have HR := hid hR
  have Hg := hid hg
  have g := gv_iff.1 (bv_iff.1 hg).1
  have g1 := g.P61
  have g2 := g.P4
  have g3 := g.Q3
  have g4 := g.QP
  have g5 := g.G2
  have g6 := g.GP
  have hGe : elB P Q G = true := el_iff.2 ⟨by omega, g6, g.GQ⟩
  obtain ⟨z0, z1, _⟩ := el_iff.1 hz
  obtain ⟨a0, a1, _⟩ := el_iff.1 ha
  obtain ⟨b0, b1, _⟩ := el_iff.1 hb
  have hme := gn_el hm
  obtain ⟨m0, m1, _⟩ := el_iff.1 hme
  have hfB := hf
  simp only [facB, Bool.and_eq_true] at hf
  obtain ⟨hf1, hf2, hf3⟩ := hf
  obtain ⟨s0, s1⟩ := nzB_iff.1 hf1
  obtain ⟨u0, u1⟩ := nzB_iff.1 hf2
  obtain ⟨v0, v1⟩ := exB_iff.1 hf3
  have hp := el_pw (by omega) (by omega) hme s.toNat
  have hX1 := el_pw (by omega) (by omega) hz s.toNat
  have hX2 := el_mul (by omega) (by omega) (el_pw (by omega) (by omega) ha u.toNat) (el_pw (by omega) (by omega) hGe v.toNat)
  have c30 := Int.emod_nonneg (s * u) (show Q ≠ 0 by omega)
  have c31 := Int.emod_lt_of_pos (s * u) (show 0 < Q by omega)
  have hX4 := el_mul (by omega) (by omega) (el_pw (by omega) (by omega) hb (s * u % Q).toNat) (el_pw (by omega) (by omega) hp v.toNat)
  change elB P Q (pwi P m s) = true at hp
  change elB P Q (pwi P z s) = true at hX1
  change elB P Q (pwi P a u * pwi P G v % P) = true at hX2
  change elB P Q (pwi P b (s * u % Q) * pwi P (pwi P m s) v % P) = true at hX4
  obtain ⟨p0, p1, _⟩ := el_iff.1 hp
  have M0 := hid (fun w' => resPower_ok P Q G A B C m s w' (by omega) m1 (by omega) (by omega) g1)
  have M1 := hid (fun w' => resPower_ok P Q G A B C z s w' (by omega) z1 (by omega) (by omega) g1)
  have M2 := hid (fun w' => resProduct_ok P Q G A B C a u G v w' (by omega) a1 (by omega) (by omega) (by omega) g6 (by omega) (by omega) g1)
  have M3 := hid (fun w' => resScaled_ok P Q G A B C s u w' (by omega) s1 (by omega) u1 (by omega))
  have M4 := hid (fun w' => resProduct_ok P Q G A B C b (s * u % Q) (pwi P m s) v w' (by omega) b1 c30 (by omega) (by omega) p1 (by omega) (by omega) g1)
  obtain ⟨p, hpe⟩ : ∃ p, pwi P m s = p := ⟨_, rfl⟩
  have HP := hid hpe
  rw [hpe] at M0 M4 hp hX4
  obtain ⟨X1, h1⟩ : ∃ X, pwi P z s = X := ⟨_, rfl⟩
  rw [h1] at M1 hX1
  obtain ⟨X2, h2⟩ : ∃ X, pwi P a u * pwi P G v % P = X := ⟨_, rfl⟩
  rw [h2] at M2 hX2
  obtain ⟨X3, h3⟩ : ∃ X, s * u % Q = X := ⟨_, rfl⟩
  rw [h3] at M3 M4 hX4
  obtain ⟨X4, h4⟩ : ∃ X, pwi P b X3 * pwi P p v % P = X := ⟨_, rfl⟩
  rw [h4] at M4 hX4
  have hQb : Q ≤ 9223372036854775807 := by omega
  have HCh := hid (fun w' (hU : Up w w') => resChallenge_any P Q G A B C p root X1 X2 X4 0 w' (by omega) hQb (HT.out.up hU) (HS.out.up hU) HR.out)
  have hE : chlE P Q G A B C p X1 X2 X4 = 0 := by rw [chlE, if_pos hg, if_pos (by simp [hp, hX1, hX2, hX4])]
  have hVc : chlV P Q G A B C p root X1 X2 X4 = coinC P Q G A B C p root X1 X2 X4 := by rw [chlV, if_pos hE]
  rw [hE, hVc] at HCh
  have hVr := coinC_range P G A B C p root X1 X2 X4 (Q := Q) (by omega)
  generalize coinC P Q G A B C p root X1 X2 X4 = V at *
  obtain ⟨hV0, hV1⟩ := hVr
  have HFac := hid hfB
  have HElm : Hid ([z, a, b].all (elB P Q) = true) := hid (by simp [hz, ha, hb])
  have HMe := hid hm
  have HBv := hid (fun w' (hU : Up w w') => bValid_any P Q G A B C w' (by omega) hQb (HT.out.up hU))
  rw [hg] at HBv
  have HMs := hid (fun w' => resMessage_any P Q G A B C m w' g1 (by omega) hQb)
  rw [hm] at HMs
  have HFa := hid (fun w' => resFactors_any P Q G A B C s u v w')
  rw [hfB] at HFa
  obtain ⟨cs, hcs⟩ : ∃ cs, arrK .u8 root 32 = cs := ⟨_, rfl⟩
  have HCs := hid hcs
  have hcsz : (Tryd.prog.info? 67).map (·.size) = some cs.size := by rw [← hcs, arrK_size]; kernel_rfl
  have HCz := hid hcsz
  unfold hashV at HCh ⊢
  rw [hcs] at HCh ⊢
  clear hT hS hR hg g hme hm hz ha hb hfB hf1 hf2 hf3 hp hX1 hX2 hX4 hpe h1 h2 h3 h4 hE hVc hcs hcsz hGe c30 c31
  go_enter Tryd.func52, Tryd.ntmps52
  go_wp2_with fail
  refine (HBv.out _ (((((Up.refl w).alloc _).alloc _).alloc _).alloc _ |>.alloc _)).mono ?_
  rintro e w1 ⟨rfl, hU1⟩
  obtain ⟨o, ho⟩ : ∃ o, w.heap.size = o := ⟨_, rfl⟩
  have hAt : BlindAt w1 o P Q G A B C vm z a b vc vr s u v cs 0 0 0 0 := by
    refine BlindAt.up ⟨?_, ?_, ?_, ?_, ?_⟩ hU1
    · exact (nums_six ho).up (((((Up.refl _).alloc _).alloc _).alloc _).alloc _)
    · exact (nums_six (by simp [ho])).up ((((Up.refl _).alloc _).alloc _).alloc _)
    · exact ((Blk.new (by simp [ho]) rfl).alloc _).alloc _
    · exact (nums_three (by simp [ho])).up ((Up.refl _).alloc _)
    · exact Blk.new (by simp [ho]) rfl
  have HU1 := hid ((((((Up.refl w).alloc _).alloc _).alloc _).alloc _ |>.alloc _).trans hU1)
  have HOo := hid ho
  rw [ho]
  obtain ⟨o1, ho1⟩ : ∃ o1, o + 1 = o1 := ⟨_, rfl⟩
  obtain ⟨o2, ho2⟩ : ∃ o2, o1 + 1 = o2 := ⟨_, rfl⟩
  obtain ⟨o3, ho3⟩ : ∃ o3, o2 + 1 = o3 := ⟨_, rfl⟩
  obtain ⟨o4, ho4⟩ : ∃ o4, o3 + 1 = o4 := ⟨_, rfl⟩
  obtain ⟨hA, hB, hC, hD, hZ⟩ := hAt
  rw [show o + 1 = o1 by omega] at hB
  rw [show o + 2 = o2 by omega] at hC
  rw [show o + 3 = o3 by omega] at hD
  rw [show o + 4 = o4 by omega] at hZ
  have HA1 := hid hA
  have HB1 := hid hB
  have HC1 := hid hC
  have HD1 := hid hD
  have HZ1 := hid hZ
  rw [ho1, ho2, ho3, ho4]
  have n0 : o ≠ o4 := by omega
  have n1 : o1 ≠ o4 := by omega
  have n2 : o2 ≠ o4 := by omega
  have n3 : o3 ≠ o4 := by omega
  have nb : w.heap.size ≤ o4 := by omega
  clear hU1 hA hB hC hD hZ ho ho1 ho2 ho3 ho4 HBv
  obtain ⟨⟨c0, c1, c2⟩, c3, c4, c5⟩ := HA1.out
  go_wp2_with fail
  refine (HMs.out _).mono ?_
  rintro e w2 ⟨rfl, hU2⟩
  have HA2 := hid (HA1.out.up hU2)
  have HB2 := hid (HB1.out.up hU2)
  have HC2 := hid (HC1.out.up hU2)
  have HD2 := hid (HD1.out.up hU2)
  have HZ2 := hid (HZ1.out.up hU2)
  have HU2 := hid (HU1.out.trans hU2)
  clear hU2 HA1 HB1 HC1 HD1 HZ1 HU1 c0 c1 c2 c3 c4 c5 HMs
  obtain ⟨⟨c0, c1, c2⟩, c3, c4, c5⟩ := HA2.out
  obtain ⟨⟨d0, d1, d2⟩, d3, d4, d5⟩ := HB2.out
  go_wp2_with fail
  refine (resElements_any P Q G A B C _ [z, a, b] _ g1 (by omega) hQb (ints_three (by go_simp) (by go_simp) (by go_simp))).mono ?_
  rintro e w3 ⟨rfl, hU3⟩
  rw [HElm.out]
  have hU3 := ((Up.refl w2).alloc _).trans hU3
  have HA3 := hid (HA2.out.up hU3)
  have HB3 := hid (HB2.out.up hU3)
  have HC3 := hid (HC2.out.up hU3)
  have HD3 := hid (HD2.out.up hU3)
  have HZ3 := hid (HZ2.out.up hU3)
  have HU3 := hid (HU2.out.trans hU3)
  clear hU3 HA2 HB2 HC2 HD2 HZ2 HU2 c0 c1 c2 c3 c4 c5 d0 d1 d2 d3 d4 d5 HElm
  obtain ⟨⟨c0, c1, c2⟩, c3, c4, c5⟩ := HA3.out
  obtain ⟨d0, d1, d2⟩ := HD3.out
  go_wp2_with fail
  refine (HFa.out _).mono ?_
  rintro e w4 ⟨rfl, hU4⟩
  have HA4 := hid (HA3.out.up hU4)
  have HB4 := hid (HB3.out.up hU4)
  have HC4 := hid (HC3.out.up hU4)
  have HD4 := hid (HD3.out.up hU4)
  have HZ4 := hid (HZ3.out.up hU4)
  have HU4 := hid (HU3.out.trans hU4)
  clear hU4 HA3 HB3 HC3 HD3 HZ3 HU3 c0 c1 c2 c3 c4 c5 d0 d1 d2 HFa
  obtain ⟨⟨c0, c1, c2⟩, c3, c4, c5⟩ := HA4.out
  obtain ⟨d0, d1, d2⟩ := HD4.out
  go_wp2_with fail
  refine (M0.out _).mono ?_
  rintro e w5 ⟨rfl, hU5⟩
  have HA5 := hid (HA4.out.up hU5)
  have HB5 := hid (HB4.out.up hU5)
  have HC5 := hid (HC4.out.up hU5)
  have HD5 := hid (HD4.out.up hU5)
  have HZ5 := hid (HZ4.out.up hU5)
  have HU5 := hid (HU4.out.trans hU5)
  clear hU5 HA4 HB4 HC4 HD4 HZ4 HU4 c0 c1 c2 c3 c4 c5 d0 d1 d2 M0
  have hS0 : BlS w o o1 o3 P Q G A B C z a b s u v w5 := ⟨HA5.out.1.1, HA5.out.1.2.1, HA5.out.1.2.2, HA5.out.2.1, HA5.out.2.2.1, HA5.out.2.2.2, HB5.out.1.2.1, HB5.out.1.2.2, HB5.out.2.1, HD5.out.1, HD5.out.2.1, HD5.out.2.2, HU5⟩
  go_wp2_with fail
  have hS1 := hS0.up (Up.refl w5).drew
  go_region_held3 (fun w' => w'.cell? ⟨o, 0, none⟩ = some (.int .i64 P) ∧ w'.cell? ⟨o, 1, none⟩ = some (.int .i64 Q) ∧ w'.cell? ⟨o, 2, none⟩ = some (.int .i64 G) ∧ w'.cell? ⟨o, 3, none⟩ = some (.int .i64 A) ∧ w'.cell? ⟨o, 4, none⟩ = some (.int .i64 B) ∧ w'.cell? ⟨o, 5, none⟩ = some (.int .i64 C) ∧ w'.cell? ⟨o1, 1, none⟩ = some (.int .i64 z) ∧ w'.cell? ⟨o1, 2, none⟩ = some (.int .i64 a) ∧ w'.cell? ⟨o1, 3, none⟩ = some (.int .i64 b) ∧ w'.cell? ⟨o3, 0, none⟩ = some (.int .i64 s) ∧ w'.cell? ⟨o3, 1, none⟩ = some (.int .i64 u) ∧ w'.cell? ⟨o3, 2, none⟩ = some (.int .i64 v) ∧ Hid (Up w w')) (first | exact hS0 | exact hS1 | exact BlS.store n0 n1 n3 nb rfl (by assumption) | exact BlS.up (by assumption) (by assumption)) (first
    | (go_at_call 76; refine (M1.out _).mono ?_; rintro e w6 ⟨rfl, hU6⟩; have hC6 := HC5.out.up (Up.trans (by first | exact (Up.refl w5).drew | exact Up.refl w5) hU6); have hZ6 := HZ5.out.up (Up.trans (by first | exact (Up.refl w5).drew | exact Up.refl w5) hU6))
    | ((with_reducible (show Calls _ _ #[_, .int .i64 a, _, _, _] _ _)); refine (M2.out _).mono ?_; rintro e w7 ⟨rfl, hU7⟩; have hC7 := hC6.up hU7; have hZ7 := hZ6.up hU7)
    | (go_at_call 79; refine (M3.out _).mono ?_; rintro e w8 ⟨rfl, hU8⟩; have hC8 := hC7.up hU8; have hZ8 := hZ7.up hU8)
    | ((with_reducible (show Calls _ _ #[_, .int .i64 b, _, _, _] _ _)); refine (M4.out _).mono ?_; rintro e w9 ⟨rfl, hU9⟩; have hC9 := hC8.up hU9; have hZ9 := hZ8.up hU9; have e0 := hZ9.val (i := 0) rfl; have e1 := hZ9.val (i := 1) rfl; have e2 := hZ9.val (i := 2) rfl; have e3 := hZ9.val (i := 3) rfl; have y0 := hZ9.thawed 0; have y1 := hZ9.thawed 1; have y2 := hZ9.thawed 2; have y3 := hZ9.thawed 3))
  have hSt : BlS w o o1 o3 P Q G A B C z a b s u v ((((w9.setCell ⟨o4, 0, none⟩ (.int .i64 X1)).setCell ⟨o4, 1, none⟩ (.int .i64 X2)).setCell ⟨o4, 2, none⟩ (.int .i64 X4)).setCell ⟨o4, 3, none⟩ (.int .i64 0)) := by assumption
  have HZ10 := hid (blk_four hZ9 (.int .i64 X1) (.int .i64 X2) (.int .i64 X4) (.int .i64 0))
  have HC10 : Hid (Blk ((((w9.setCell ⟨o4, 0, none⟩ (.int .i64 X1)).setCell ⟨o4, 1, none⟩ (.int .i64 X2)).setCell ⟨o4, 2, none⟩ (.int .i64 X4)).setCell ⟨o4, 3, none⟩ (.int .i64 0)) o2 67 cs) := hid ((((hC9.apart (a := ⟨o4, 0, none⟩) n2 _).apart (a := ⟨o4, 1, none⟩) n2 _).apart (a := ⟨o4, 2, none⟩) n2 _).apart (a := ⟨o4, 3, none⟩) n2 _)
  have HSt := hid hSt
  clear hU6 hC6 hZ6 hU7 hC7 hZ7 hU8 hC8 hZ8 hU9 hC9 hZ9 e0 e1 e2 e3 y0 y1 y2 y3 hS0 hS1 HA5 HB5 HC5 HD5 HZ5 M1 M2 M3 M4
  generalize (((w9.setCell ⟨o4, 0, none⟩ (.int .i64 X1)).setCell ⟨o4, 1, none⟩ (.int .i64 X2)).setCell ⟨o4, 2, none⟩ (.int .i64 X4)).setCell ⟨o4, 3, none⟩ (.int .i64 0) = w10 at *
  obtain ⟨c0, c1, c2, c3, c4, c5, d1, d2, d3, f0, f1, f2, hU10⟩ := HSt.out
  have HU10 := hid hU10.out
  have e0 := HZ10.out.val (i := 0) rfl
  have e1 := HZ10.out.val (i := 1) rfl
  have e2 := HZ10.out.val (i := 2) rfl
  have e3 := HZ10.out.val (i := 3) rfl
  clear hU10 hSt d1 d2 d3
  go_wp2_with (refine wpList_load_row rfl 67 _ rfl o2 rfl 67 cs (0, 0) _ HC10.out Tryd.underlying67 rfl HCz.out ?_)
  refine (HCh.out _ HU10.out).mono ?_
  rintro e w11 ⟨rfl, hU11⟩
  have HSt11 := hid (HSt.out.up hU11)
  have HZ11 := hid (HZ10.out.up hU11)
  have HU11 := hid (HU10.out.trans hU11)
  clear hU11 HZ10 HC10 HSt HU10 c0 c1 c2 c3 c4 c5 f0 f1 f2 e0 e1 e2 e3 HCh
  have e0 := HZ11.out.val (i := 0) rfl
  have e1 := HZ11.out.val (i := 1) rfl
  have e2 := HZ11.out.val (i := 2) rfl
  have e3 := HZ11.out.val (i := 3) rfl
  have y0 := HZ11.out.thawed 0
  have y1 := HZ11.out.thawed 1
  have y2 := HZ11.out.thawed 2
  have y3 := HZ11.out.thawed 3
  by_cases hV : V = 0
  · subst hV
    go_wp2
    refine bodyPost_ret (v := .tuple #[.int .i64 0, sgn 0 0 0 0, .int .i64 0, .int .i64 10]) (results_tmp_row_tmp2 Tryd.results52 _ _ o4 58 _ (0, 0) _ (by rfl) (blk_four HZ11.out _ _ _ _) Tryd.underlying58 rfl (by kernel_rfl)) rfl ⟨0, 0, 0, 0, 0, 0, 10, rfl, ?_, fun h => absurd h (by decide), .inr rfl⟩
    exact (((HU11.out.setCell nb _).setCell nb _).setCell nb _).setCell nb _
  have dV : (V == 0) = false := by simpa using hV
  have HVv : Hid (0 ≤ V ∧ V < Q) := hid ⟨hV0, hV1⟩
  clear hV e0 e1 e2 e3 y0 y1 y2 y3 hV0 hV1
  obtain ⟨c0, c1, c2, c3, c4, c5, d1, d2, d3, f0, f1, f2, _⟩ := HSt11.out
  by_cases hI : HasInv u Q
  · obtain ⟨i, i0, i1, i2⟩ := hI
    have HI := hid (fun w' => Inverse_ok u Q i w' (by omega) u1 (by omega) i0 i1 i2)
    have hV0 := HVv.out.1
    have hV1 := HVv.out.2
    have M5 := hid (fun w' => resScaled_ok P Q G A B C V i w' hV0 hV1 i0 i1 (by omega))
    clear i0 i1 i2 hV0 hV1
    go_wp2_with fail
    refine (HI.out _).mono ?_
    rintro e w12 ⟨rfl, hU12⟩
    have HSt12 := hid (HSt11.out.up hU12)
    have HZ12 := hid (HZ11.out.up hU12)
    have HU12 := hid (HU11.out.trans hU12)
    clear hU12 HZ11 HSt11 HU11 c0 c1 c2 c3 c4 c5 d1 d2 d3 f0 f1 f2 HI
    go_wp2_with fail
    have hS0 : BkS w o o4 P Q G A B C X1 X2 X4 0 w12 := by
      obtain ⟨c0, c1, c2, c3, c4, c5, _⟩ := HSt12.out
      exact ⟨c0, c1, c2, c3, c4, c5, HZ12.out.val rfl, HZ12.out.val rfl, HZ12.out.val rfl, HZ12.out.val rfl, HU12, HZ12⟩
    have hS1 := hS0.up (Up.refl w12).drew
    go_region_held3 (fun w' => w'.cell? ⟨o, 0, none⟩ = some (.int .i64 P) ∧ w'.cell? ⟨o, 1, none⟩ = some (.int .i64 Q) ∧ w'.cell? ⟨o, 2, none⟩ = some (.int .i64 G) ∧ w'.cell? ⟨o, 3, none⟩ = some (.int .i64 A) ∧ w'.cell? ⟨o, 4, none⟩ = some (.int .i64 B) ∧ w'.cell? ⟨o, 5, none⟩ = some (.int .i64 C) ∧ w'.cell? ⟨o4, 0, none⟩ = some (.int .i64 X1) ∧ w'.cell? ⟨o4, 1, none⟩ = some (.int .i64 X2) ∧ w'.cell? ⟨o4, 2, none⟩ = some (.int .i64 X4) ∧ w'.cell? ⟨o4, 3, none⟩ = some (.int .i64 0) ∧ Hid (Up w w') ∧ Hid (Blk w' o4 58 #[.int .i64 X1, .int .i64 X2, .int .i64 X4, .int .i64 0])) (first | exact hS0 | exact hS1 | exact BkS.store n0 nb rfl (by assumption) | exact BkS.up (by assumption) (by assumption)) (first
      | (go_at_call 79; refine (M5.out _).mono ?_; rintro e w13 ⟨rfl, hU13⟩; have hZ13 := HZ12.out.up (Up.trans (by first | exact (Up.refl w12).drew | exact Up.refl w12) hU13); have y0 := hZ13.thawed 0; have y1 := hZ13.thawed 1; have y2 := hZ13.thawed 2; have y3 := hZ13.thawed 3))
    all_goals (
      have hSe : BkS w o o4 P Q G A B C X1 X2 X4 0 ((((w13.setCell ⟨o4, 0, none⟩ (.int .i64 X1)).setCell ⟨o4, 1, none⟩ (.int .i64 X2)).setCell ⟨o4, 2, none⟩ (.int .i64 X4)).setCell ⟨o4, 3, none⟩ (.int .i64 0)) := by assumption
      go_wp2
      refine bodyPost_ret (v := .tuple #[.int .i64 p, sgn X1 X2 X4 0, .int .i64 (V * i % Q), .int .i64 0]) (results_tmp_row_tmp2 Tryd.results52 _ _ o4 58 _ (0, 0) _ (by rfl) hSe.2.2.2.2.2.2.2.2.2.2.2.out Tryd.underlying58 rfl (by kernel_rfl)) rfl ⟨p, X1, X2, X4, 0, V * i % Q, 0, rfl, hSe.2.2.2.2.2.2.2.2.2.2.1.out, fun _ => HP.out.symm, .inl rfl⟩)
  · have HI := hid (fun w' => Inverse_zero u Q w' (by omega) u1 (by omega) hI)
    clear hI
    go_wp2_with fail
    refine (HI.out _).mono ?_
    rintro e w12 ⟨rfl, hU12⟩
    have HZ12 := hid (HZ11.out.up hU12)
    have HU12 := hid (HU11.out.trans hU12)
    clear hU12 HZ11 HSt11 HU11 c0 c1 c2 c3 c4 c5 d1 d2 d3 f0 f1 f2 HI
    have e0 := HZ12.out.val (i := 0) rfl
    have e1 := HZ12.out.val (i := 1) rfl
    have e2 := HZ12.out.val (i := 2) rfl
    have e3 := HZ12.out.val (i := 3) rfl
    have y0 := HZ12.out.thawed 0
    have y1 := HZ12.out.thawed 1
    have y2 := HZ12.out.thawed 2
    have y3 := HZ12.out.thawed 3
    go_wp2
    refine bodyPost_ret (v := .tuple #[.int .i64 0, sgn 0 0 0 0, .int .i64 0, .int .i64 10]) (results_tmp_row_tmp2 Tryd.results52 _ _ o4 58 _ (0, 0) _ (by rfl) (blk_four HZ12.out _ _ _ _) Tryd.underlying58 rfl (by kernel_rfl)) rfl ⟨0, 0, 0, 0, 0, 0, 10, rfl, ?_, fun h => absurd h (by decide), .inr rfl⟩
    exact (((HU12.out.setCell nb _).setCell nb _).setCell nb _).setCell nb _
end Go.Proofs.YtmbbnjbohnobcaaDoor
namespace Go.Proofs.YtmbbnjbohnobcaaDoor
open Go.RowKit Go.Sp
set_option maxHeartbeats 2000000
set_option maxRecDepth 20000

theorem grp_new {w : World} {r : Nat} {x y z : Int} {t : TypeId} (hr : w.heap.size = r) : GrpAt (w.alloc (.cells #[.int .i64 x, .int .i64 y, .int .i64 z] t)) r x y z := by
  subst hr
  exact ⟨by go_simp, by go_simp, by go_simp⟩

theorem awake25 (w : World) (hT : Tab w) : Calls Tryd.prog 21 #[] w fun e w' => e = .returned (.bool true) ∧ Up w w' := by
  have HT := hid hT
  clear hT
  have H1 := hid (show errE (bvB 23 11 4 2 3 6) (nzB 11 1) = 0 by decide +kernel)
  have H2 := hid (show orZ 0 (pwi 23 4 1) = 4 by decide +kernel)
  have H3 := hid (show orZ 0 (pwi 23 2 1) = 2 by decide +kernel)
  have H4 := hid (show orZ 0 (pwi 23 3 1) = 3 by decide +kernel)
  have H5 := hid (show errE (bvB 23 11 4 2 3 6) (nzB 11 1 && (gnB 23 11 8 && exB 11 0)) = 0 by decide +kernel)
  have H6 := hid (show orZ 0 (pwi 23 8 1) = 8 by decide +kernel)
  have H7 := hid (show orZ 0 (pwi 23 4 0) = 1 by decide +kernel)
  have H8 := hid (show orZ 0 (pwi 23 8 0) = 1 by decide +kernel)
  have H9 := hid (show errE (bvB 23 11 4 2 3 6) (nzB 11 1 && (exB 11 0 && exB 11 7)) = 0 by decide +kernel)
  have H10 := hid (show orZ 0 ((7 * 1 % 11 + 0) % 11) = 7 by decide +kernel)
  go_enter Tryd.func21, Tryd.ntmps21
  go_wp2_with fail
  have HA := hid (bas_reads (o := .cells #[.int .i64 23, .int .i64 11, .int .i64 4, .int .i64 2, .int .i64 3, .int .i64 6] 39) rfl (Up.refl (w.alloc _)))
  refine (resKey_any 23 11 4 2 3 6 1 _ (by omega) (by omega) (HT.out.up ((Up.refl w).alloc _))).mono ?_
  rintro e w1 ⟨rfl, hU1⟩
  rw [H1.out, H2.out, H3.out, H4.out]
  have HA1 := hid (HA.out.up hU1)
  have HU1 := hid (((Up.refl w).alloc _).trans hU1)
  clear hU1 HA
  obtain ⟨⟨c0, c1, c2⟩, c3, c4, c5⟩ := HA1.out
  have hlt := cell_lt c0
  go_wp2_with fail
  refine (resOffer_any 23 11 4 2 3 6 1 8 0 _ (by omega) (by omega) (HT.out.up (HU1.out.alloc _))).mono ?_
  rintro e w2 ⟨rfl, hU2⟩
  rw [H5.out, H6.out, H7.out, H8.out]
  have HA2 := hid ((HA1.out.up ((Up.refl w1).alloc _)).up hU2)
  have HK2 := hid ((grp_new (w := w1) (x := 4) (y := 2) (z := 3) (t := 41) rfl).up hU2)
  have HU2 := hid ((HU1.out.alloc _).trans hU2)
  clear hU2 c0 c1 c2 c3 c4 c5 HA1
  obtain ⟨⟨c0, c1, c2⟩, c3, c4, c5⟩ := HA2.out
  go_wp2_with fail
  refine (resAnswer_any 23 11 4 2 3 6 1 0 7 _ (by omega) (by omega) (HT.out.up HU2.out)).mono ?_
  rintro e w3 ⟨rfl, hU3⟩
  rw [H9.out, H10.out]
  obtain ⟨e0, e1, e2⟩ := HK2.out.up hU3
  clear c0 c1 c2 c3 c4 c5
  go_wp2
  go_ret
  exact ⟨rfl, HU2.out.trans hU3⟩

theorem RestrictKeys_walk (P Q G A B C k1 k2 k3 x m n c : Int) (w : World) (hP : -9223372036854775808 ≤ P) (hQ : Q ≤ 9223372036854775807) (hT : Tab w) :
    Calls Tryd.prog 4 #[bas P Q G A B C, bkey k1 k2 k3, .int .i64 x, .int .i64 m, .int .i64 n, .int .i64 c] w fun e w' => e = .returned (.bool true) ∧ Up w w' := by
  have HT := hid hT
  have HC1 := hid (fun w' (hU : Up w w') => resKey_any P Q G A B C x w' hP hQ (hT.up hU))
  have HC2 := hid (fun w' (hU : Up w w') => resOffer_any P Q G A B C x m n w' hP hQ (hT.up hU))
  have HC3 := hid (fun w' (hU : Up w w') => resAnswer_any P Q G A B C x n c w' hP hQ (hT.up hU))
  have HC4 := hid (fun w' (hU : Up w w') => resValid_any P Q G A B C k1 k2 k3 w' hP hQ (hT.up hU))
  have HC5 := hid (fun w' (_ : Up w w') => r25Valid_any P Q G A B C k1 k2 k3 w' hP hQ)
  obtain ⟨V, hV⟩ : ∃ V, kvB P Q G A B C k1 k2 k3 = V := ⟨_, rfl⟩
  rw [hV] at HC4 HC5
  obtain ⟨E1, hE1⟩ : ∃ E, errE (bvB P Q G A B C) (nzB Q x) = E := ⟨_, rfl⟩
  obtain ⟨E2, hE2⟩ : ∃ E, errE (bvB P Q G A B C) (nzB Q x && (gnB P Q m && exB Q n)) = E := ⟨_, rfl⟩
  obtain ⟨E3, hE3⟩ : ∃ E, errE (bvB P Q G A B C) (nzB Q x && (exB Q n && exB Q c)) = E := ⟨_, rfl⟩
  rw [hE1] at HC1
  rw [hE2] at HC2
  rw [hE3] at HC3
  obtain ⟨X, hX⟩ : ∃ E, orZ E1 (pwi P G x) = E := ⟨_, rfl⟩
  obtain ⟨Y, hY⟩ : ∃ E, orZ E1 (pwi P A x) = E := ⟨_, rfl⟩
  obtain ⟨Z, hZ⟩ : ∃ E, orZ E1 (pwi P B x) = E := ⟨_, rfl⟩
  obtain ⟨X2, hX2⟩ : ∃ E, orZ E2 (pwi P m x) = E := ⟨_, rfl⟩
  obtain ⟨Y2, hY2⟩ : ∃ E, orZ E2 (pwi P G n) = E := ⟨_, rfl⟩
  obtain ⟨Z2, hZ2⟩ : ∃ E, orZ E2 (pwi P m n) = E := ⟨_, rfl⟩
  obtain ⟨X3, hX3⟩ : ∃ E, orZ E3 ((c * x % Q + n) % Q) = E := ⟨_, rfl⟩
  rw [hX, hY, hZ] at HC1
  rw [hX2, hY2, hZ2] at HC2
  rw [hX3] at HC3
  have HE1 := hid hE1
  have HE2 := hid hE2
  have HE3 := hid hE3
  have HX := hid hX
  have HY := hid hY
  have HZ := hid hZ
  have HX2 := hid hX2
  have HY2 := hid hY2
  have HZ2 := hid hZ2
  have HX3 := hid hX3
  clear hT hE1 hE2 hE3 hX hY hZ hX2 hY2 hZ2 hX3 hV
  go_enter Tryd.func4, Tryd.ntmps4
  go_wp2_with fail
  have HA0 := hid (bas_reads (w := w) (o := .cells #[.int .i64 P, .int .i64 Q, .int .i64 G, .int .i64 A, .int .i64 B, .int .i64 C] 39) rfl ((Up.refl (w.alloc _)).alloc (.cells #[.int .i64 k1, .int .i64 k2, .int .i64 k3] 41)))
  have HK0 := hid (three_reads (w := w) (o := .cells #[.int .i64 P, .int .i64 Q, .int .i64 G, .int .i64 A, .int .i64 B, .int .i64 C] 39) (x := k1) (y := k2) (z := k3) (t := 41) (Up.refl _))
  refine (awake25 _ (HT.out.up (((Up.refl w).alloc _).alloc _))).mono ?_
  rintro e w1 ⟨rfl, hU1⟩
  have HA1 := hid (HA0.out.up hU1)
  have HK1 := hid (HK0.out.up hU1)
  have HU1 := hid ((((Up.refl w).alloc _).alloc _).trans hU1)
  clear hU1 HA0 HK0
  obtain ⟨⟨c0, c1, c2⟩, c3, c4, c5⟩ := HA1.out
  go_wp2_with fail
  refine (HC1.out _ HU1.out).mono ?_
  rintro e w2 ⟨rfl, hU2⟩
  have HA2 := hid (HA1.out.up hU2)
  have HK2 := hid (HK1.out.up hU2)
  have HU2 := hid (HU1.out.trans hU2)
  clear hU2 c0 c1 c2 c3 c4 c5 HA1 HK1
  obtain ⟨⟨c0, c1, c2⟩, c3, c4, c5⟩ := HA2.out
  have hlt := cell_lt c0
  go_wp2_with fail
  refine (HC2.out _ (HU2.out.alloc _)).mono ?_
  rintro e w3 ⟨rfl, hU3⟩
  have HA3 := hid ((HA2.out.up ((Up.refl w2).alloc _)).up hU3)
  have HK3 := hid ((HK2.out.up ((Up.refl w2).alloc _)).up hU3)
  obtain ⟨r, hr⟩ : ∃ r, w2.heap.size = r := ⟨_, rfl⟩
  have HR3 := hid ((grp_new (w := w2) (x := X) (y := Y) (z := Z) (t := 41) hr).up hU3)
  have HU3 := hid ((HU2.out.alloc _).trans hU3)
  rw [hr]
  clear hU3 c0 c1 c2 c3 c4 c5 HA2 HK2 hr hlt
  obtain ⟨⟨c0, c1, c2⟩, c3, c4, c5⟩ := HA3.out
  obtain ⟨d0, d1, d2⟩ := HR3.out
  go_wp2_with fail
  refine (HC3.out _ HU3.out).mono ?_
  rintro e w4 ⟨rfl, hU4⟩
  have HA4 := hid (HA3.out.up hU4)
  have HK4 := hid (HK3.out.up hU4)
  have HR4 := hid (HR3.out.up hU4)
  have HU4 := hid (HU3.out.trans hU4)
  clear hU4 c0 c1 c2 c3 c4 c5 d0 d1 d2 HA3 HK3 HR3
  obtain ⟨⟨c0, c1, c2⟩, c3, c4, c5⟩ := HA4.out
  obtain ⟨d0, d1, d2⟩ := HR4.out
  obtain ⟨e0, e1, e2⟩ := HK4.out
  have f0 := cellF c0
  have f1 := cellF c1
  have f2 := cellF c2
  have f3 := cellF c3
  have f4 := cellF c4
  have f5 := cellF c5
  have f6 := cellF e0
  have f7 := cellF e1
  have f8 := cellF e2
  clear c0 c1 c2 c3 c4 c5 d0 d1 d2 e0 e1 e2
  go_wp2_with fail
  refine wp_region_up (by kernel_rfl) (by kernel_rfl) ?_
  repeat (go_big_quiet_step ((first
    | (go_at_call 25; exact Calls.up_of (HC4.out _ (HU4.out.trans (UpFrom.up _))))
    | (go_at_call 26; exact Calls.up_of (HC5.out _ (HU4.out.trans (UpFrom.up _)))))))
  refine wpQuiet_nil ?_
  rintro _ ⟨p, rfl⟩
  obtain ⟨w5, hw5⟩ : ∃ w5, p.w' = w5 := ⟨_, rfl⟩
  have hU5 := p.up
  rw [hw5] at hU5 ⊢
  have HA5 := hid (HA4.out.up hU5)
  have HR5 := hid (HR4.out.up hU5)
  have HU5 := hid (HU4.out.trans hU5)
  clear hU5 f0 f1 f2 f3 f4 f5 f6 f7 f8 hw5 HA4 HR4 HK4
  obtain ⟨⟨c0, c1, c2⟩, c3, c4, c5⟩ := HA5.out
  obtain ⟨d0, d1, d2⟩ := HR5.out
  go_wp2_with fail
  refine (rbValid_any P Q G A B C _ hP hQ).mono ?_
  rintro e w6 ⟨rfl, hU6⟩
  have HA6 := hid (HA5.out.up hU6)
  have HR6 := hid (HR5.out.up hU6)
  have HU6 := hid (HU5.out.trans hU6)
  clear hU6 c0 c1 c2 c3 c4 c5 d0 d1 d2 HA5 HR5
  obtain ⟨⟨c0, c1, c2⟩, c3, c4, c5⟩ := HA6.out
  obtain ⟨d0, d1, d2⟩ := HR6.out
  by_cases hb : bvB P Q G A B C = true
  case neg =>
    have hb' : bvB P Q G A B C = false := by simpa using hb
    have Hb := hid hb'
    rw [hb']
    clear hb hb'
    have a1 : E1 = 1 := by rw [← HE1.out, Hb.out]; rfl
    have a2 : E2 = 1 := by rw [← HE2.out, Hb.out]; rfl
    have a3 : E3 = 1 := by rw [← HE3.out, Hb.out]; rfl
    subst a1 a2 a3
    have b1 : X = 0 := HX.out.symm
    have b2 : Y = 0 := HY.out.symm
    have b3 : Z = 0 := HZ.out.symm
    have b4 : X2 = 0 := HX2.out.symm
    have b5 : Y2 = 0 := HY2.out.symm
    have b6 : Z2 = 0 := HZ2.out.symm
    have b7 : X3 = 0 := HX3.out.symm
    subst b1 b2 b3 b4 b5 b6 b7
    go_wp2
    go_ret
    exact ⟨rfl, HU6.out⟩
  have Hb := hid hb
  have g := gv_iff.1 (bv_iff.1 hb).1
  have g1 := g.P61
  have g3 := g.Q3
  rw [hb]
  clear hb g
  go_wp2_with fail
  refine (r25Secret_any P Q G x _).mono ?_
  rintro e w7 ⟨rfl, hU7⟩
  have HA7 := hid (HA6.out.up hU7)
  have HR7 := hid (HR6.out.up hU7)
  have HU7 := hid (HU6.out.trans hU7)
  clear hU7 c0 c1 c2 c3 c4 c5 d0 d1 d2 HA6 HR6
  obtain ⟨⟨c0, c1, c2⟩, c3, c4, c5⟩ := HA7.out
  obtain ⟨d0, d1, d2⟩ := HR7.out
  by_cases hx : nzB Q x = true
  case neg =>
    have hx' : nzB Q x = false := by simpa using hx
    have Hx := hid hx'
    rw [hx']
    clear hx hx'
    have a1 : E1 = 2 := by rw [← HE1.out, Hb.out, Hx.out]; rfl
    have a2 : E2 = 2 := by rw [← HE2.out, Hb.out, Hx.out]; rfl
    have a3 : E3 = 2 := by rw [← HE3.out, Hb.out, Hx.out]; rfl
    subst a1 a2 a3
    have b1 : X = 0 := HX.out.symm
    have b2 : Y = 0 := HY.out.symm
    have b3 : Z = 0 := HZ.out.symm
    have b4 : X2 = 0 := HX2.out.symm
    have b5 : Y2 = 0 := HY2.out.symm
    have b6 : Z2 = 0 := HZ2.out.symm
    have b7 : X3 = 0 := HX3.out.symm
    subst b1 b2 b3 b4 b5 b6 b7
    go_wp2
    go_ret
    exact ⟨rfl, HU7.out⟩
  have Hx := hid hx
  rw [hx]
  clear hx
  have a1 : E1 = 0 := by rw [← HE1.out, Hb.out, Hx.out]; rfl
  subst a1
  have HC6 := hid (fun w' => r25Key_ok P Q G A B C x w' Hb.out Hx.out)
  rw [show pwi P G x = X from HX.out, show pwi P A x = Y from HY.out, show pwi P B x = Z from HZ.out] at HC6
  have f0 := cellF c0
  have f1 := cellF c1
  have f2 := cellF c2
  have f3 := cellF c3
  have f4 := cellF c4
  have f5 := cellF c5
  have f6 := cellF d0
  have f7 := cellF d1
  have f8 := cellF d2
  clear c0 c1 c2 c3 c4 c5 d0 d1 d2
  go_wp2_with fail
  refine wp_region_up (by kernel_rfl) (by kernel_rfl) ?_
  repeat (go_big_quiet_step ((first
    | (go_at_call 29; exact Calls.up_of (HC6.out _)))))
  refine wpQuiet_nil ?_
  rintro _ ⟨p, rfl⟩
  obtain ⟨w8, hw8⟩ : ∃ w8, p.w' = w8 := ⟨_, rfl⟩
  have hU8 := p.up
  rw [hw8] at hU8 ⊢
  have HA8 := hid (HA7.out.up hU8)
  have HU8 := hid (HU7.out.trans hU8)
  clear hU8 f0 f1 f2 f3 f4 f5 f6 f7 f8 hw8 HA7 HR7
  obtain ⟨⟨c0, c1, c2⟩, c3, c4, c5⟩ := HA8.out
  go_wp2_with fail
  refine (r25Scalar_any P Q G n _).mono ?_
  rintro e w9 ⟨rfl, hU9⟩
  have HA9 := hid (HA8.out.up hU9)
  have HU9 := hid (HU8.out.trans hU9)
  clear hU9 c0 c1 c2 c3 c4 c5 HA8
  obtain ⟨⟨c0, c1, c2⟩, c3, c4, c5⟩ := HA9.out
  by_cases hn : exB Q n = true
  case neg =>
    have hn' : exB Q n = false := by simpa using hn
    have Hn := hid hn'
    rw [hn']
    clear hn hn'
    have a2 : E2 = 2 := by
      rw [← HE2.out, Hb.out, Hx.out, Hn.out, Bool.and_false]; rfl
    have a3 : E3 = 2 := by rw [← HE3.out, Hb.out, Hx.out, Hn.out]; rfl
    subst a2 a3
    have b4 : X2 = 0 := HX2.out.symm
    have b5 : Y2 = 0 := HY2.out.symm
    have b6 : Z2 = 0 := HZ2.out.symm
    have b7 : X3 = 0 := HX3.out.symm
    subst b4 b5 b6 b7
    go_wp2_with fail
    refine (r25Scalar_any P Q G n _).mono ?_
    rintro e w10 ⟨rfl, hU10⟩
    rw [Hn.out]
    go_wp2
    go_ret
    exact ⟨rfl, HU9.out.trans hU10⟩
  have Hn := hid hn
  rw [hn]
  clear hn
  go_wp2_with fail
  refine (r25Message_any P Q G m _ g1 (by omega) hQ).mono ?_
  rintro e w10 ⟨rfl, hU10⟩
  have HA10 := hid (HA9.out.up hU10)
  have HU10 := hid (HU9.out.trans hU10)
  clear hU10 c0 c1 c2 c3 c4 c5 HA9
  obtain ⟨⟨c0, c1, c2⟩, c3, c4, c5⟩ := HA10.out
  by_cases hm : gnB P Q m = true
  case neg =>
    have hm' : gnB P Q m = false := by simpa using hm
    have Hm := hid hm'
    rw [hm']
    clear hm hm'
    have a2 : E2 = 2 := by rw [← HE2.out, Hb.out, Hx.out, Hm.out]; rfl
    subst a2
    have b4 : X2 = 0 := HX2.out.symm
    have b5 : Y2 = 0 := HY2.out.symm
    have b6 : Z2 = 0 := HZ2.out.symm
    subst b4 b5 b6
    go_wp2_with fail
    refine (r25Scalar_any P Q G n _).mono ?_
    rintro e w11 ⟨rfl, hU11⟩
    rw [Hn.out]
    have HA11 := hid (HA10.out.up hU11)
    have HU11 := hid (HU10.out.trans hU11)
    clear hU11 c0 c1 c2 c3 c4 c5 HA10
    obtain ⟨⟨c0, c1, c2⟩, c3, c4, c5⟩ := HA11.out
    go_wp2_with fail
    refine (r25Scalar_any P Q G c _).mono ?_
    rintro e w12 ⟨rfl, hU12⟩
    have HA12 := hid (HA11.out.up hU12)
    have HU12 := hid (HU11.out.trans hU12)
    clear hU12 c0 c1 c2 c3 c4 c5 HA11
    obtain ⟨⟨c0, c1, c2⟩, c3, c4, c5⟩ := HA12.out
    by_cases hc : exB Q c = true
    case neg =>
      have hc' : exB Q c = false := by simpa using hc
      have Hc := hid hc'
      rw [hc']
      clear hc hc'
      have a3 : E3 = 2 := by rw [← HE3.out, Hb.out, Hx.out, Hn.out, Hc.out]; rfl
      subst a3
      have b7 : X3 = 0 := HX3.out.symm
      subst b7
      go_wp2
      go_ret
      exact ⟨rfl, HU12.out⟩
    have Hc := hid hc
    rw [hc]
    clear hc
    have a3 : E3 = 0 := by rw [← HE3.out, Hb.out, Hx.out, Hn.out, Hc.out]; rfl
    subst a3
    have HC8 := hid (fun w' => r25Answer_ok P Q G A B C x n c w' Hb.out Hx.out Hn.out Hc.out)
    rw [show (c * x % Q + n) % Q = X3 from HX3.out] at HC8
    go_wp2_with fail
    refine (HC8.out _).mono ?_
    rintro e w13 ⟨rfl, hU13⟩
    go_wp2
    go_ret
    exact ⟨rfl, HU12.out.trans hU13⟩
  have Hm := hid hm
  rw [hm]
  clear hm
  have a2 : E2 = 0 := by rw [← HE2.out, Hb.out, Hx.out, Hm.out, Hn.out]; rfl
  subst a2
  have HC7 := hid (fun w' => r25Offer_ok P Q G A B C x m n w' Hb.out Hx.out Hm.out Hn.out)
  rw [show pwi P m x = X2 from HX2.out, show pwi P G n = Y2 from HY2.out, show pwi P m n = Z2 from HZ2.out] at HC7
  go_wp2_with fail
  refine (HC7.out _).mono ?_
  rintro e w11 ⟨rfl, hU11⟩
  have HA11 := hid (HA10.out.up hU11)
  have HU11 := hid (HU10.out.trans hU11)
  clear hU11 c0 c1 c2 c3 c4 c5 HA10
  obtain ⟨⟨c0, c1, c2⟩, c3, c4, c5⟩ := HA11.out
  go_wp2_with fail
  refine (r25Scalar_any P Q G n _).mono ?_
  rintro e w12 ⟨rfl, hU12⟩
  rw [Hn.out]
  have HA12 := hid (HA11.out.up hU12)
  have HU12 := hid (HU11.out.trans hU12)
  clear hU12 c0 c1 c2 c3 c4 c5 HA11
  obtain ⟨⟨c0, c1, c2⟩, c3, c4, c5⟩ := HA12.out
  go_wp2_with fail
  refine (r25Scalar_any P Q G c _).mono ?_
  rintro e w13 ⟨rfl, hU13⟩
  have HA13 := hid (HA12.out.up hU13)
  have HU13 := hid (HU12.out.trans hU13)
  clear hU13 c0 c1 c2 c3 c4 c5 HA12
  obtain ⟨⟨c0, c1, c2⟩, c3, c4, c5⟩ := HA13.out
  by_cases hc : exB Q c = true
  case neg =>
    have hc' : exB Q c = false := by simpa using hc
    have Hc := hid hc'
    rw [hc']
    clear hc hc'
    have a3 : E3 = 2 := by rw [← HE3.out, Hb.out, Hx.out, Hn.out, Hc.out]; rfl
    subst a3
    have b7 : X3 = 0 := HX3.out.symm
    subst b7
    go_wp2
    go_ret
    exact ⟨rfl, HU13.out⟩
  have Hc := hid hc
  rw [hc]
  clear hc
  have a3 : E3 = 0 := by rw [← HE3.out, Hb.out, Hx.out, Hn.out, Hc.out]; rfl
  subst a3
  have HC8 := hid (fun w' => r25Answer_ok P Q G A B C x n c w' Hb.out Hx.out Hn.out Hc.out)
  rw [show (c * x % Q + n) % Q = X3 from HX3.out] at HC8
  go_wp2_with fail
  refine (HC8.out _).mono ?_
  rintro e w14 ⟨rfl, hU14⟩
  go_wp2
  go_ret
  exact ⟨rfl, HU13.out.trans hU14⟩
end Go.Proofs.YtmbbnjbohnobcaaDoor
