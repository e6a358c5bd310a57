/- ProductParts: the walk. -/
import Derived.Test.YtmbbnjbohnobcaaDoorSub
import Derived.Test.YtmbbnjbohnobcaaDoorTurn
import Derived.Test.YtmbbnjbohnobcaaDoorRowB
import Derived.Test.YtmbbnjbohnobcaaDoorProdB
import Derived.Test.YtmbbnjbohnobcaaDoorAwakeTwelve
namespace Go.Proofs.YtmbbnjbohnobcaaDoor
open Go.RowKit Go.Sp
set_option maxHeartbeats 2000000
set_option maxRecDepth 20000

theorem rows_two {w : World} {u1 u2 : Value} {a b : List Int} {t : TypeId} (h1 : IntsAt w u1 a) (h2 : IntsAt w u2 b) : RowsAt (w.alloc (.cells #[u1, u2] t)) (.slice (some ⟨w.heap.size, 0, none⟩) 2 2) [a, b] := by
  refine ⟨by simp, some ⟨w.heap.size, 0, none⟩, 2, rfl, fun _ => ⟨w.heap.size, 0, rfl, fun i hi => ?_⟩⟩
  have hb := alloc_at w (.cells #[u1, u2] t) _ rfl
  have hU := (Up.refl w).alloc (.cells #[u1, u2] t)
  have : i = 0 ∨ i = 1 := by simp at hi; omega
  rcases this with rfl | rfl
  · exact ⟨u1, (cell_of_row _ _ 0 _ _ _ hb).trans rfl, h1.up hU⟩
  · exact ⟨u2, (cell_of_row _ _ 1 _ _ _ hb).trans rfl, h2.up hU⟩

theorem ProductParts_walk (P Q G ct : Int) (v1 v2 : Value) (bs es : List Int) (w : World) (hP : -9223372036854775808 ≤ P) (hQ : Q ≤ 9223372036854775807) (hc0 : 0 ≤ ct) (hc1 : ct ≤ 255) (hT : Tab w) (h1 : IntsAt w v1 bs) (h2 : IntsAt w v2 es) (r1 : Room v1) (r2 : Room v2) :
    Calls Tryd.prog 3 #[grp P Q G, v1, v2, .int .u8 ct] w fun e w' => e = .returned (.bool true) ∧ Up w w' := by
  have HT := hid hT
  have HI1 := hid h1
  have HI2 := hid h2
  have HR1 := hid r1
  have HR2 := hid r2
  have HPA := hid (fun u v xs ys w' (hU : Up w w') (hu : IntsAt w' u xs) (hv : IntsAt w' v ys) => Product_any P Q G u v xs ys w' hP hQ (HT.out.up hU) hu hv)
  obtain ⟨l1, a1, cp1, rfl, hx1⟩ := h1
  obtain ⟨l2, a2, cp2, rfl, hx2⟩ := h2
  have HC1 := hid hx1
  have HC2 := hid hx2
  obtain ⟨n, hn⟩ : ∃ n, bs.length = n := ⟨_, rfl⟩
  obtain ⟨m, hm⟩ : ∃ m, es.length = m := ⟨_, rfl⟩
  have HN := hid hn
  have HM := hid hm
  rw [hn] at HI1 l1 HR1
  rw [hm] at HI2 l2 HR2
  rw [hn, hm]
  clear hT hn hm hx1 hx2 r1 r2
  go_enter Tryd.func3, Tryd.ntmps3
  go_wp2_with fail
  refine (awake12 _ (HT.out.up ((Up.refl w).alloc _))).mono ?_
  rintro e w1 ⟨rfl, hU1⟩
  have HG1 := hid (box_reads rfl hU1)
  have HU1 := hid (((Up.refl w).alloc _).trans hU1)
  clear hU1
  obtain ⟨o, ho⟩ : ∃ o, w.heap.size = o := ⟨_, rfl⟩
  have HOo := hid ho
  rw [ho] at HG1
  rw [ho]
  clear ho
  obtain ⟨c0, c1, c2⟩ := HG1.out
  by_cases q1 : 30 < n
  case pos =>
    have d1 : decide (30 < n) = true := by simpa using q1
    go_wp2
    go_ret
    exact ⟨rfl, HU1.out⟩
  have d1 : decide (30 < n) = false := by simpa using q1
  by_cases q2 : m = n
  case neg =>
    have d2 : (m != n) = true := by simpa using q2
    have d3 : ((m : Int) != (n : Int)) = true := by simp; omega
    go_wp2
    go_ret
    exact ⟨rfl, HU1.out⟩
  obtain rfl : m = n := q2
  go_wp2_with fail
  refine (HPA.out _ _ bs es _ HU1.out (HI1.out.up HU1.out) (HI2.out.up HU1.out)).mono ?_
  rintro e w2 ⟨rfl, hU2⟩
  have HG2 := hid (HG1.out.up hU2)
  have HU2 := hid (HU1.out.trans hU2)
  clear hU2 HG1 HU1 c0 c1 c2
  obtain ⟨E, hE⟩ : ∃ E, prE P Q G bs es = E := ⟨_, rfl⟩
  obtain ⟨X, hX⟩ : ∃ X, prV P Q G bs es = X := ⟨_, rfl⟩
  have HE := hid hE
  have HX := hid hX
  rw [hE, hX]
  clear hE hX
  obtain ⟨c0, c1, c2⟩ := HG2.out
  by_cases hE : E = 0
  case neg =>
    have hX0 : X = 0 := by rw [← HX.out, prV, if_neg (by rw [HE.out]; exact hE)]
    subst hX0
    have d5 : (E == 0) = false := by simp [hE]
    have d6 : (E != 0) = true := by simp [hE]
    go_wp2
    go_ret
    exact ⟨rfl, HU2.out⟩
  subst hE
  obtain ⟨hg, hl, _, hbs, hes⟩ := prE_zero.1 HE.out
  have Hg := hid hg
  have g := gv_iff.1 hg
  have g1 := g.P61
  have g2 := g.P4
  have g3 := g.Q3
  have Hbs := hid hbs
  have Hes := hid hes
  have HXp : Hid (X = pfold P Q 1 bs es) := hid (by rw [← HX.out, prV, if_pos HE.out])
  have HLen := hid hl
  -- the cut
  obtain ⟨k, hk⟩ : ∃ k : Nat, ct % ((m : Int) + 1) = (k : Int) := by
    obtain ⟨k, hk⟩ := Int.eq_ofNat_of_zero_le (Int.emod_nonneg ct (show ((m : Int) + 1) ≠ 0 by omega))
    exact ⟨k, hk⟩
  have hkm : k ≤ m := by
    have := Int.emod_lt_of_pos ct (show (0 : Int) < (m : Int) + 1 by omega)
    omega
  obtain ⟨u1, u2, run1, run2, i1, i2⟩ := sub_runs HI1.out HR1.out k hkm
  obtain ⟨u3, u4, run3, run4, i3, i4⟩ := sub_runs HI2.out HR2.out k hkm
  have hall : ∀ (ys zs : List Int), ys.length = zs.length → ys.length ≤ 100 → (∀ b ∈ ys, elB P Q b = true) → (∀ e ∈ zs, exB Q e = true) → prE P Q G ys zs = 0 ∧ prV P Q G ys zs = pfold P Q 1 ys zs := fun ys zs e1 e2 e3 e4 => by
    have h0 : prE P Q G ys zs = 0 := prE_zero.2 ⟨hg, e1, e2, e3, e4⟩
    exact ⟨h0, by rw [prV, if_pos h0]⟩
  have hm100 : m ≤ 30 := by omega
  obtain ⟨pa, qa⟩ := hall (bs.take k) (es.take k) (by simp [hl]) (by simp [HN.out]; omega) (fun x hx => hbs x (List.mem_of_mem_take hx)) (fun x hx => hes x (List.mem_of_mem_take hx))
  obtain ⟨pb, qb⟩ := hall (bs.drop k) (es.drop k) (by simp [hl]) (by simp [HN.out]; omega) (fun x hx => hbs x (List.mem_of_mem_drop hx)) (fun x hx => hes x (List.mem_of_mem_drop hx))
  obtain ⟨pt, qt⟩ := hall bs.reverse es.reverse (by simp [hl]) (by simp [HN.out]; omega) (fun x hx => hbs x (List.mem_reverse.1 hx)) (fun x hx => hes x (List.mem_reverse.1 hx))
  have ps := hall bs.reverse es (by simp [hl]) (by simp [HN.out]; omega) (fun x hx => hbs x (List.mem_reverse.1 hx)) hes
  obtain ⟨Xa, hXa⟩ : ∃ Xa, pfold P Q 1 (bs.take k) (es.take k) = Xa := ⟨_, rfl⟩
  obtain ⟨Xb, hXb⟩ : ∃ Xb, pfold P Q 1 (bs.drop k) (es.drop k) = Xb := ⟨_, rfl⟩
  obtain ⟨Xs, hXs⟩ : ∃ Xs, pfold P Q 1 bs.reverse es = Xs := ⟨_, rfl⟩
  have HXab : Hid (Xa * Xb % P = X) := hid (by rw [← hXa, ← hXb, pfold_cut (by omega) (by omega) bs es k hbs hl, HXp.out])
  have HXa : Hid (elB P Q Xa = true) := hid (by rw [← hXa]; exact pfold_el (by omega) (by omega) _ _ 1 (el_one (by omega)) (fun x hx => hbs x (List.mem_of_mem_take hx)))
  have HXb : Hid (elB P Q Xb = true) := hid (by rw [← hXb]; exact pfold_el (by omega) (by omega) _ _ 1 (el_one (by omega)) (fun x hx => hbs x (List.mem_of_mem_drop hx)))
  have HXt : Hid (pfold P Q 1 bs.reverse es.reverse = X) := hid (by rw [pfold_rev (by omega) (by omega) bs es hbs hl, HXp.out])
  have HC9 := hid (fun w' (hU : Up w w') => HPA.out u1 u3 _ _ w' hU (i1.up hU) (i3.up hU))
  have HC10 := hid (fun w' (hU : Up w w') => HPA.out u2 u4 _ _ w' hU (i2.up hU) (i4.up hU))
  rw [pa, qa, hXa] at HC9
  rw [pb, qb, hXb] at HC10
  have Hps := hid ps
  have HXs := hid hXs
  have Hpt := hid pt
  have Hqt := hid qt
  clear i1 i2 i3 i4 hall pa qa pb qb pt qt ps hXa hXb hXs hg hl hbs hes g
  have f0 := cellF c0
  have f1 := cellF c1
  have f2 := cellF c2
  go_wp2_with fail
  refine wp_region_up (by kernel_rfl) (by kernel_rfl) ?_
  repeat (go_big_quiet_step ((first
    | (go_at_call 13; exact Calls.up_of (HC9.out _ (HU2.out.trans (UpFrom.up _)))))))
  refine wpQuiet_nil ?_
  rintro _ ⟨p, rfl⟩
  have HU3 := hid (HU2.out.trans p.up)
  have HG3 := hid (HG2.out.up p.up)
  have e0 := f0 p
  have e1 := f1 p
  have e2 := f2 p
  clear f0 f1 f2 c0 c1 c2 HG2 HU2 HC9
  generalize p.w' = w3 at *
  have f0 := cellF e0
  have f1 := cellF e1
  have f2 := cellF e2
  go_wp2_with fail
  refine wp_region_up (by kernel_rfl) (by kernel_rfl) ?_
  repeat (go_big_quiet_step ((first
    | (go_at_call 13; exact Calls.up_of (HC10.out _ (HU3.out.trans (UpFrom.up _)))))))
  refine wpQuiet_nil ?_
  rintro _ ⟨q, rfl⟩
  have HU4 := hid (HU3.out.trans q.up)
  have HG4 := hid (HG3.out.up q.up)
  clear f0 f1 f2 e0 e1 e2 HG3 HU3 HC10 run1 run2 run3 run4
  generalize q.w' = w4 at *
  obtain ⟨c0, c1, c2⟩ := HG4.out
  go_wp2_with fail
  refine (gMul_ok P Q G Xa Xb _ hQ (HT.out.up HU4.out) Hg.out HXa.out HXb.out).mono ?_
  rintro e w5 ⟨rfl, hU5⟩
  rw [HXab.out]
  have HU5 := hid (HU4.out.trans hU5)
  have HG5 := hid (HG4.out.up hU5)
  clear hU5 c0 c1 c2 HG4 HU4
  -- the clones
  go_wp2_with fail
  refine (clone_any _ bs _ (HI1.out.up HU5.out) (by rw [HN.out]; omega)).mono ?_
  rintro e w6 ⟨t1, rfl, hO1, hU6⟩
  go_wp2_with fail
  refine (clone_any _ es _ (HI2.out.up (HU5.out.trans hU6)) (by rw [HM.out]; omega)).mono ?_
  rintro e w7 ⟨t2, rfl, hO2, hU7⟩
  have hb1 : ∀ k, t1.ownBlock = some k → w5.heap.size ≤ k ∧ k < w6.heap.size := fun k hk => World.ownsRow.lt hO1 k hk
  have hb2 : ∀ k, t2.ownBlock = some k → w6.heap.size ≤ k ∧ k < w7.heap.size := fun k hk => World.ownsRow.lt hO2 k hk
  have hO1 := hO1.up hU7
  have hV7 := hU6.trans hU7
  have hz6 := hU6.size
  clear hU6 hU7
  go_wp2_with fail
  refine (rev_own hO1 (by rw [HN.out]; omega)).mono ?_
  rintro e w8 ⟨rfl, hO1, hg8⟩
  have hO2 := OwnI.grown hO2 hg8 (by
    cases h2 : t2.ownBlock with
    | none => exact .inl rfl
    | some k2 =>
      right
      intro h
      have := hb1 k2 h.symm
      have := hb2 k2 h2
      omega)
  have hV8 := up_grown hV7 hg8 (fun k hk => (hb1 k hk).1)
  clear hg8 hV7
  go_wp2_with fail
  refine (rev_own hO2 (by rw [HM.out]; omega)).mono ?_
  rintro e w9 ⟨rfl, hO2, hg9⟩
  have hO1 := OwnI.grown hO1 hg9 (by
    cases h1 : t1.ownBlock with
    | none => exact .inl rfl
    | some k1 =>
      right
      intro h
      have := hb2 k1 h.symm
      have := hb1 k1 h1
      omega)
  have hV9 := up_grown hV8 hg9 (fun k hk => Nat.le_trans hz6 (hb2 k hk).1)
  clear hg9 hV8 hb1 hb2 hz6
  have HU9 := hid (HU5.out.trans hV9)
  have HG9 := hid (HG5.out.up hV9)
  have HO1 := hid hO1
  have HO2 := hid hO2
  clear hV9 HU5 HG5 hO1 hO2
  have hlr : bs.reverse.length = m := by rw [List.length_reverse, HN.out]
  obtain ⟨tp, tc, rfl⟩ := HO1.out.shape
  rw [hlr] at HO1
  rw [hlr]
  clear hlr
  have HCt := hid (fun w' (hU : Up w9 w') => HPA.out _ t2 bs.reverse es.reverse w' (HU9.out.trans hU) (HO1.out.ints.up hU) (HO2.out.ints.up hU))
  have HCs := hid (fun w' (hU : Up w9 w') => HPA.out _ _ bs.reverse es w' (HU9.out.trans hU) (HO1.out.ints.up hU) (HI2.out.up (HU9.out.trans hU)))
  rw [Hpt.out, Hqt.out, HXt.out] at HCt
  rw [Hps.out.1, Hps.out.2, HXs.out] at HCs
  obtain ⟨c0, c1, c2⟩ := HG9.out
  go_wp2_with fail
  refine (HCt.out _ (Up.refl _)).mono ?_
  rintro e w10 ⟨rfl, hU10⟩
  have HU10 := hid hU10
  have HG10 := hid (HG9.out.up hU10)
  clear hU10 c0 c1 c2 HCt
  obtain ⟨B, hB⟩ : ∃ B, w10.heap.size = B := ⟨_, rfl⟩
  have HB := hid hB
  obtain ⟨L, hL⟩ : ∃ L : List Int, ((bs.zip es).map fun x => gpw P Q x.1 x.2) = L := ⟨_, rfl⟩
  have HLl : Hid (L.length = m) := hid (by rw [← hL]; simp [HN.out, HM.out])
  have HLat : Hid (∀ i, i < m → L.take (i + 1) = L.take i ++ [gpw P Q (bs.getD i 0) (es.getD i 0)]) := hid (fun i hi => by
    have h1 : i < bs.length := by rw [HN.out]; exact hi
    have h2 : i < es.length := by rw [HM.out]; exact hi
    rw [List.take_succ_eq_append_getElem (by rw [HLl.out]; exact hi)]
    congr 1
    simp [← hL, h1, h2])
  have HLj : Hid (jfold P 1 L = X) := hid (by rw [← hL, jfold_map bs es 1 HLen.out, HXp.out])
  have HLe : Hid (∀ x ∈ L, elB P Q x = true) := hid (by
    rw [← hL]
    intro x hx
    simp only [List.mem_map] at hx
    obtain ⟨⟨b, e⟩, hbe, rfl⟩ := hx
    exact gpw_el (by omega) (by omega) (Hbs.out b (List.of_mem_zip hbe).1) e)
  have hsz : o < B := by rw [← hB]; exact cell_lt HG10.out.1
  clear hB hL
  obtain ⟨i0, hi, hz0, hz1, hz2⟩ := info_parts infoInt
  go_wp2_with fail
  go_loopw [22, 108] (fun vp vi wr => ∃ i : Nat, i ≤ m ∧ vi = .int .i64 i ∧ Hid (OwnI wr B vp (L.take i)) ∧ Hid (Up w10 wr)) (fun _ vi _ => m - (intOf vi).toNat)
  case atStart => exact ⟨0, by omega, rfl, hid (own_nil _ _), hid (Up.refl _)⟩
  case round =>
    obtain ⟨i, him, rfl, HOw, HU⟩ := hrel
    have HUw := hid (HU9.out.trans (HU10.out.trans HU.out))
    have HGr := hid (HG10.out.up HU.out)
    obtain ⟨c0, c1, c2⟩ := HGr.out
    by_cases hl : i < m
    · have hl1 : i < bs.length := by rw [HN.out]; exact hl
      have hl2 : i < es.length := by rw [HM.out]; exact hl
      obtain ⟨b1, o1, rfl, k1⟩ := ints_cell HC1.out HUw.out hl1
      obtain ⟨b2, o2, rfl, k2⟩ := ints_cell HC2.out HUw.out hl2
      have e1 := Hbs.out _ (getD_mem hl1)
      have e2 := exB_iff.1 (Hes.out _ (getD_mem hl2))
      have HTk := hid (HLat.out i hl)
      have hlen : (L.take i).length = i := by rw [List.length_take, HLl.out]; omega
      have HLn := hid hlen
      have HEx := hid e1
      have HEy := hid e2
      clear hl1 hl2 e1 e2 hlen
      generalize bs.getD i 0 = x at *
      generalize es.getD i 0 = y at *
      have y0 := HEy.out.1
      have y1 := HEy.out.2
      have HCp := hid (fun w' (hT : Tab w') => gPower_ok P Q G x y w' hQ hT Hg.out HEx.out (by omega) (by omega))
      have f0 := cellF c0
      have f1 := cellF c1
      have f2 := cellF c2
      have f3 := cellF k2
      go_wp2_with fail
      refine wp_region_up (by kernel_rfl) (by kernel_rfl) ?_
      repeat (go_big_quiet_step ((first
        | (go_at_call 17; exact Calls.up_of (HCp.out _ (HT.out.up (HUw.out.trans (UpFrom.up _))))))))
      refine wpQuiet_nil ?_
      rintro _ ⟨p, rfl⟩
      have HU6 := hid (HU.out.trans p.up)
      have HO6 := hid (HOw.out.up p.up)
      clear f0 f1 f2 f3 c0 c1 c2 k1 k2 HOw HU HUw HGr
      generalize p.w' = w11 at *
      obtain ⟨K, hK⟩ : ∃ K, gpw P Q x y = K := ⟨_, rfl⟩
      rw [hK] at HTk
      rw [hK]
      clear hK HCp
      have hown := HO6.out.row HLn.out
      have hsz6 : B ≤ w11.heap.size := by have := HU6.out.size; rw [HB.out] at this; exact this
      go_wp2_with (at_builtin; refine wpList_append_own _ rfl _ _ 24 rfl B 3 i0 (.int .i64 0) 1 8 Tryd.underlying24 hi hz0 hz1 hz2 rfl (by decide) _ _ _ rfl (hown.alloc _) ⟨w11.heap.size, 0, none⟩ 1 1 [.int .i64 K] rfl rfl ?c1 ?c2 ?c3 ?c4 ?c5 ?_)
      case c1 => go_simp
      case c2 => intro z hz; simp at hz; subst hz; rfl
      case c3 => unfold maxLen; omega
      case c4 => omega
      case c5 => simp; omega
      intro v' w12 hown' hgrow _
      rw [← List.map_take] at hown'
      obtain ⟨hO7, hU7, hB7⟩ := appended HLn.out HO6.out hown' hgrow HU6.out (by rw [HB.out]; omega) hsz6
      rw [← HTk.out] at hO7
      have HO7 := hid hO7
      have HU7 := hid hU7
      clear hO7 hU7 hB7 hown' hgrow hown
      go_wp2_with fail
      go_roundw
      case rel => exact ⟨i + 1, by omega, by go_num, HO7, HU7⟩
      case measure => simp [intOf]; omega
    · have HF := hid HOw.out
      rw [List.take_of_length_le (by rw [HLl.out]; omega)] at HF
      clear HOw
      have hJ := fun v w' (hU : Up w w') (hv : IntsAt w' v L) => Join_any P Q G v L w' hP hQ (HT.out.up hU) hv
      have hJ0 : joE P Q G L = 0 := by rw [joE, if_pos Hg.out, if_neg (by rw [HLl.out]; omega), if_pos (List.all_eq_true.2 HLe.out)]
      have hJv : joV P Q G L = X := by rw [joV, if_pos hJ0, HLj.out]
      rw [hJ0, hJv] at hJ
      have HJ := hid hJ
      clear hJ hJ0 hJv
      go_wp2_with fail
      refine (HJ.out _ _ HUw.out HF.out.ints).mono ?_
      rintro e w13 ⟨rfl, hU13⟩
      have HU13 := hid (HU.out.trans hU13)
      have HG13 := hid (HG10.out.up HU13.out)
      clear hU13 HJ HF HGr HU HUw c0 c1 c2
      obtain ⟨c0, c1, c2⟩ := HG13.out
      have hA0 : ([bs, bs.reverse].any fun r => !r.all (elB P Q)) = false := by
        simp only [List.any_cons, List.any_nil, Bool.or_false]
        rw [List.all_eq_true.2 Hbs.out, show bs.reverse.all (elB P Q) = true from List.all_eq_true.2 fun x hx => Hbs.out x (List.mem_reverse.1 hx)]
        rfl
      have hA1 : ([bs, bs.reverse].any fun r => decide (r.length ≠ es.length)) = false := by simp [HN.out, HM.out]
      have hE0 : rsE P Q G [bs, bs.reverse] es = 0 := by
        rw [rsE, if_pos ⟨Hg.out, hA1⟩, if_neg (by have := HM.out; simp only [List.length_cons, List.length_nil]; omega), if_pos ⟨List.all_eq_true.2 Hes.out, hA0⟩]
      have hLr : rsL P Q [bs, bs.reverse] es = [X, Xs] := by rw [rsL, List.map_cons, List.map_cons, List.map_nil, HXs.out, ← HXp.out]
      have HRw := hid (fun u1 u2 w' (hU : Up w w') (q1 : RowsAt w' u1 [bs, bs.reverse]) (q2 : IntsAt w' u2 es) => Rows_any P Q G u1 u2 [bs, bs.reverse] es w' hP hQ (HT.out.up hU) q1 q2)
      unfold RowsOut at HRw
      rw [hE0, hLr] at HRw
      have HCk := hid (fun w' (hU : Up w w') => Check_any P Q G X _ _ bs es w' hP hQ (HT.out.up hU) (HI1.out.up hU) (HI2.out.up hU))
      rw [HE.out, HX.out] at HCk
      have HU13w := hid (HU9.out.trans (HU10.out.trans HU13.out))
      clear hE0 hLr hA0 hA1
      go_wp2_with fail
      refine (HRw.out _ _ _ (HU13w.out.alloc _) (rows_two (HI1.out.up HU13w.out) (HO1.out.ints.up (HU10.out.trans HU13.out))) (HI2.out.up (HU13w.out.alloc _))).mono ?_
      rintro e w14 ⟨rv, rfl, hOr, hU14⟩
      have HV14 := hid ((HU10.out.trans HU13.out).trans (((Up.refl w13).alloc _).trans hU14))
      have HG14 := hid (HG13.out.up (((Up.refl w13).alloc _).trans hU14))
      obtain ⟨_, ra, rc, rfl, hcr⟩ := (show IntsAt w14 rv [X, Xs] from hOr.ints)
      obtain ⟨rb, roff, rfl, hcell⟩ := hcr (by simp)
      have k0 := hcell 0 (by simp)
      have k1 := hcell 1 (by simp)
      simp only [List.getD_eq_getElem?_getD, List.getElem?_cons_zero, List.getElem?_cons_succ, Option.getD_some, Nat.add_zero] at k0 k1
      have K0 := hid k0
      have K1 := hid k1
      clear hcr hcell hOr hU14 k0 k1 c0 c1 c2 HRw
      simp only [List.length_cons, List.length_nil, Nat.zero_add]
      obtain ⟨c0, c1, c2⟩ := HG14.out
      go_wp2_with fail
      refine (HCs.out _ HV14.out).mono ?_
      rintro e w15 ⟨rfl, hU15⟩
      have HG15 := hid (HG14.out.up hU15)
      have k0 := cellUp hU15 K0.out
      have k1 := cellUp hU15 K1.out
      have HU15 := hid (HU9.out.trans (HV14.out.trans hU15))
      clear hU15 c0 c1 c2
      obtain ⟨c0, c1, c2⟩ := HG15.out
      go_wp2_with fail
      refine (HCk.out _ HU15.out).mono ?_
      rintro e w16 ⟨rfl, hU16⟩
      go_wp2
      go_ret
      exact ⟨rfl, HU15.out.trans hU16⟩
end Go.Proofs.YtmbbnjbohnobcaaDoor
