/- Package draw: Next. Package draw: Nonzero. Package draw: New. -/
import Derived.Test.YtdlcmpbpdbpanaaDoorMSignatureFits17
namespace Go.Proofs.YtdlcmpbpdbpanaaDoor
open Go.RowKit Go.Sp
set_option maxHeartbeats 2000000
set_option maxRecDepth 20000

/-- What Next returns. -/
def nxtV (h : Nat → Int) (c q : Int) : Value :=
  if chkE c q 1 2305843009213693951 = 0 then .tuple #[bif (numT h q 256 c 0).2.2 then drw zeroH 0 else drw h (numT h q 256 c 0).2.1, .int .i64 (numT h q 256 c 0).1, .int .i64 (bif (numT h q 256 c 0).2.2 then 5 else 0)]
  else .tuple #[drw zeroH 0, .int .i64 0, .int .i64 (chkE c q 1 2305843009213693951)]

theorem chk_iff {c n lo hi : Int} : chkE c n lo hi = 0 ↔ (0 ≤ c ∧ c ≤ 1099511627776) ∧ lo ≤ n ∧ n ≤ hi := by
  unfold chkE
  rw [← dvB_iff]
  by_cases h1 : dvB c = true
  · by_cases h2 : lo ≤ n ∧ n ≤ hi
    · simp [h1, h2]
    · simp [h1, h2]
  · simp [h1]

theorem Up.grownNew {w w1 w2 : World} {b : Nat} (hU : Up w w1) (hg : w1.grownBy w2 (some b)) (hb : w.heap.size ≤ b) : Up w w2 :=
  Below.grown hU.below hg hU.size (fun k hk => by simp at hk; omega)

theorem Next_any (h : Nat → Int) (c q : Int) (w : World) (hT : TabS w) (hB : Byt h) :
    Calls Tryd.prog 15 #[drw h c, .int .i64 q] w fun e w' => e = .returned (nxtV h c q) ∧ Up w w' := by
  have HT := hid hT
  have HB := hid hB
  obtain ⟨E, hE⟩ : ∃ E, chkE c q 1 2305843009213693951 = E := ⟨_, rfl⟩
  have HE := hid hE
  obtain ⟨V, hV⟩ : ∃ V, nxtV h c q = V := ⟨_, rfl⟩
  have HV := hid hV
  rw [hV]
  clear hT hB hV
  have HC := hid (fun w' => check_draw_any h c q 1 2305843009213693951 w')
  rw [hE] at HC
  clear hE
  unfold drw at HC ⊢
  go_enter Tryd.func15, Tryd.ntmps15
  have hB0 := Blk.new (w := w) (t := 25) (cs := drwA h c) rfl rfl
  have hB1 := Blk.new (w := w.alloc (.cells (drwA h c) 25)) (t := 25) (g := w.heap.size + 1) (by simp) zero33
  go_wp2_with (refine wpList_load_row rfl 25 _ rfl w.heap.size rfl 25 (drwA h c) (0, 0) _ (hB0.alloc _) Tryd.underlying25 rfl (sizeDrw _ _) ?_)
  refine (HC.out _).mono ?_
  rintro e w1 ⟨rfl, hU1⟩
  have HB0 := hid ((hB0.alloc _).up hU1)
  have HB1 := hid (hB1.up hU1)
  have HU1 := hid ((((Up.refl w).alloc _).alloc _).trans hU1)
  clear hU1 hB0 hB1 HC
  by_cases h0 : E = 0
  case neg =>
    have d1 : (E != 0) = true := by simpa using h0
    have HVr : Hid (V = .tuple #[drw zeroH 0, .int .i64 0, .int .i64 E]) := hid (by rw [← HV.out, nxtV, HE.out, if_neg h0])
    clear h0
    obtain ⟨o, ho⟩ : ∃ o, w.heap.size + 1 = o := ⟨_, rfl⟩
    have HOo := hid ho
    rw [ho] at HB1
    rw [ho]
    clear ho
    go_wp2_with (refine wpList_store_rowTo rfl 25 _ _ rfl rfl o (drwA zeroH 0) ?_ ?_ 25 (drwA zeroH 0) ?_ ?_ ?_ ?_ ?_)
    · rfl
    · exact (congrArg Value.agg zero33)
    · exact HB1.out
    · exact sizeDrw _ _
    · rfl
    · exact drwA_one _ _
    refine bodyPost_ret (v := .tuple #[.agg (drwA zeroH 0), .int .i64 0, .int .i64 E]) (results_row_tmp2 Tryd.results15 _ _ o 25 _ (0, 0) _ (by rfl) (HB1.out.row _) Tryd.underlying25 rfl (sizeDrw _ _)) rfl ⟨by rw [HVr.out]; rfl, HU1.out.setRow (by have := HOo.out; omega) _⟩
  have hk := chk_iff.1 (HE.out.trans h0)
  have HK := hid hk
  have HVr : Hid (V = .tuple #[bif (numT h q 256 c 0).2.2 then drw zeroH 0 else drw h (numT h q 256 c 0).2.1, .int .i64 (numT h q 256 c 0).1, .int .i64 (bif (numT h q 256 c 0).2.2 then 5 else 0)]) := hid (by rw [← HV.out, nxtV, if_pos (HE.out.trans h0)])
  subst h0
  clear hk HE HV
  go_wp2_with (first
    | (refine wpList_load_row rfl 25 _ rfl w.heap.size rfl 25 (drwA h c) (0, 0) _ HB0.out Tryd.underlying25 rfl (sizeDrw _ _) ?_)
    | (refine wpList_buildTo rfl 110 _ rfl _ rfl (srcA h c false) (by kernel_rfl) ?_))
  refine (number_any h c false q w1.heap.size _ ((HT.out.up HU1.out).up ((Up.refl _).alloc _)) HB.out (Blk.new rfl rfl) HK.out.1.1 HK.out.1.2 (fun h => by cases h) HK.out.2.1 HK.out.2.2).mono ?_
  rintro e w2 ⟨rfl, hS2, hg2⟩
  have l0 := HB0.out.lt
  have l1 := HB1.out.lt
  have HB2 := hid (Blk.grownOut (HB0.out.alloc (.cells (srcA h c false) 110)) hg2 (by omega))
  have HZ2 := hid (Blk.grownOut (HB1.out.alloc (.cells (srcA h c false) 110)) hg2 (by omega))
  have HU2 := hid (Up.grownNew (HU1.out.alloc (.cells (srcA h c false) 110)) hg2 (by omega))
  have HS2 := hid hS2
  generalize (numT h q 256 c 0).1 = n at *
  generalize (numT h q 256 c 0).2.1 = c2 at *
  generalize (numT h q 256 c 0).2.2 = F at *
  obtain ⟨D, hD, hD1, hD2⟩ : ∃ D, (bif F then drw zeroH 0 else drw h c2) = .agg D ∧ D.size = 33 ∧ D.all (·.oneCell') = true := by
    cases F with
    | true => exact ⟨_, rfl, drwA_size _ _, drwA_one _ _⟩
    | false => exact ⟨_, rfl, drwA_size _ _, drwA_one _ _⟩
  have HR := hid (fun w' hb => result_any h c2 F w1.heap.size w' hb)
  rw [hD] at HVr HR
  have hD3 : (Tryd.prog.info? 25).map (·.size) = some D.size := by rw [hD1]; kernel_rfl
  have HD1 := hid hD1
  have HD2 := hid hD2
  have HD3 := hid hD3
  obtain ⟨f, hf⟩ : ∃ f : Int, (bif F then 5 else 0) = f := ⟨_, rfl⟩
  rw [hf] at HVr HR
  obtain ⟨o, ho⟩ : ∃ o, w.heap.size = o := ⟨_, rfl⟩
  have HOo := hid ho
  rw [ho] at HB2 HZ2
  rw [ho]
  clear hS2 hg2 l0 l1 hD hD1 hD2 hD3 hf HB0 HB1 ho
  go_wp2_with fail
  refine (HR.out _ HS2.out).mono ?_
  rintro e w3 ⟨rfl, hU3⟩
  have HB3 := hid (HB2.out.up hU3)
  have HZ3 := hid (HZ2.out.up hU3)
  have HU3 := hid (HU2.out.trans hU3)
  clear hU3 HB2 HZ2 HU2 HS2 HR
  go_wp2_with (first
    | (refine wpList_store_rowTo rfl 25 _ _ rfl rfl o D rfl rfl 25 (drwA h c) HB3.out HD3.out (by rw [HD1.out, drwA_size]) HD2.out ?_)
    | (refine wpList_load_row rfl 25 _ rfl o rfl 25 D (0, 0) _ (HB3.out.row _) Tryd.underlying25 rfl HD3.out ?_)
    | (refine wpList_store_rowTo rfl 25 _ _ rfl rfl (o + 1) D rfl rfl 25 (drwA zeroH 0) (HZ3.out.rowApart (by omega) _) HD3.out (by rw [HD1.out, drwA_size]) HD2.out ?_))
  refine bodyPost_ret (v := .tuple #[.agg D, .int .i64 n, .int .i64 f]) (results_row_tmp2 Tryd.results15 _ _ (o + 1) 25 _ (0, 0) _ (by rfl) ((HZ3.out.rowApart (by omega) _).row _) Tryd.underlying25 rfl HD3.out) rfl ⟨by rw [HVr.out], (HU3.out.setRow (by have := HOo.out; omega) _).setRow (by have := HOo.out; omega) _⟩
end Go.Proofs.YtdlcmpbpdbpanaaDoor
namespace Go.Proofs.YtdlcmpbpdbpanaaDoor
open Go.RowKit Go.Sp
set_option maxHeartbeats 2000000
set_option maxRecDepth 20000

theorem numT_range {h : Nat → Int} {q : Int} : ∀ (n : Nat) (c x : Int), 0 ≤ c → c ≤ 1099511627776 → c ≤ (numT h q n c x).2.1 ∧ (numT h q n c x).2.1 ≤ 1099511627776
  | 0, c, x, h0, h1 => ⟨Int.le_refl _, h1⟩
  | n + 1, c, x, h0, h1 => by
    by_cases hc : c = 1099511627776
    · rw [numT, if_pos hc]; exact ⟨Int.le_refl _, h1⟩
    · rw [numT, if_neg hc]
      split
      · exact ⟨by simp; omega, by simp; omega⟩
      · have := numT_range (h := h) (q := q) n (c + 1) (firK (shaB (posL h c)) 8 % 2 ^ maskN q) (by omega) (by omega)
        omega

/-- A number other than 0: the number, the counter, and whether there was no block. -/
def nzT (h : Nat → Int) (q : Int) : Nat → Int → Int × Int × Bool
  | 0, c => (1, c, false)
  | n + 1, c => if (numT h q 256 c 0).2.2 = true then (0, c, true) else if (numT h q 256 c 0).1 ≠ 0 then ((numT h q 256 c 0).1, (numT h q 256 c 0).2.1, false) else nzT h q n (numT h q 256 c 0).2.1

/-- What Nonzero returns. -/
def nznV (h : Nat → Int) (c q : Int) : Value :=
  if chkE c q 2 2305843009213693951 = 0 then .tuple #[bif (nzT h q 256 c).2.2 then drw zeroH 0 else drw h (nzT h q 256 c).2.1, .int .i64 (nzT h q 256 c).1, .int .i64 (bif (nzT h q 256 c).2.2 then 5 else 0)]
  else .tuple #[drw zeroH 0, .int .i64 0, .int .i64 (chkE c q 2 2305843009213693951)]

theorem nzT_full {h : Nat → Int} {q : Int} {n : Nat} {c : Int} (hf : (numT h q 256 c 0).2.2 = true) : nzT h q (n + 1) c = (0, c, true) := by rw [nzT, if_pos hf]
theorem nzT_num {h : Nat → Int} {q : Int} {n : Nat} {c : Int} (hf : (numT h q 256 c 0).2.2 = false) (h1 : (numT h q 256 c 0).1 ≠ 0) : nzT h q (n + 1) c = ((numT h q 256 c 0).1, (numT h q 256 c 0).2.1, false) := by
  rw [nzT, if_neg (by simp [hf]), if_pos h1]
theorem nzT_next {h : Nat → Int} {q : Int} {n : Nat} {c : Int} (hf : (numT h q 256 c 0).2.2 = false) (h1 : (numT h q 256 c 0).1 = 0) : nzT h q (n + 1) c = nzT h q n (numT h q 256 c 0).2.1 := by
  rw [nzT, if_neg (by simp [hf]), if_neg (by simp [h1])]

theorem Nonzero_any (h : Nat → Int) (c q : Int) (w : World) (hT : TabS w) (hB : Byt h) :
    Calls Tryd.prog 17 #[drw h c, .int .i64 q] w fun e w' => e = .returned (nznV h c q) ∧ Up w w' := by
  have HT := hid hT
  have HB := hid hB
  obtain ⟨E, hE⟩ : ∃ E, chkE c q 2 2305843009213693951 = E := ⟨_, rfl⟩
  have HE := hid hE
  obtain ⟨V, hV⟩ : ∃ V, nznV h c q = V := ⟨_, rfl⟩
  have HV := hid hV
  rw [hV]
  clear hT hB hV
  have HC := hid (fun w' => check_draw_any h c q 2 2305843009213693951 w')
  rw [hE] at HC
  clear hE
  unfold drw at HC ⊢
  go_enter Tryd.func17, Tryd.ntmps17
  have hB0 := Blk.new (w := w) (t := 25) (cs := drwA h c) rfl rfl
  have hB1 := Blk.new (w := w.alloc (.cells (drwA h c) 25)) (t := 25) (g := w.heap.size + 1) (by simp) zero33
  go_wp2_with (refine wpList_load_row rfl 25 _ rfl w.heap.size rfl 25 (drwA h c) (0, 0) _ (hB0.alloc _) Tryd.underlying25 rfl (sizeDrw _ _) ?_)
  refine (HC.out _).mono ?_
  rintro e w1 ⟨rfl, hU1⟩
  have HB0 := hid ((hB0.alloc _).up hU1)
  have HB1 := hid (hB1.up hU1)
  have HU1 := hid ((((Up.refl w).alloc _).alloc _).trans hU1)
  clear hU1 hB0 hB1 HC
  obtain ⟨o, ho⟩ : ∃ o, w.heap.size + 1 = o := ⟨_, rfl⟩
  have HOo := hid ho
  clear ho
  by_cases h0 : E = 0
  case neg =>
    have d1 : (E != 0) = true := by simpa using h0
    have HVr : Hid (V = .tuple #[drw zeroH 0, .int .i64 0, .int .i64 E]) := hid (by rw [← HV.out, nznV, HE.out, if_neg h0])
    clear h0
    rw [HOo.out] at HB1
    rw [HOo.out]
    go_wp2_with (refine wpList_store_rowTo rfl 25 _ _ rfl rfl o (drwA zeroH 0) ?_ ?_ 25 (drwA zeroH 0) ?_ ?_ ?_ ?_ ?_)
    · rfl
    · exact (congrArg Value.agg zero33)
    · exact HB1.out
    · exact sizeDrw _ _
    · rfl
    · exact drwA_one _ _
    refine bodyPost_ret (v := .tuple #[.agg (drwA zeroH 0), .int .i64 0, .int .i64 E]) (results_row_tmp2 Tryd.results17 _ _ o 25 _ (0, 0) _ (by rfl) (HB1.out.row _) Tryd.underlying25 rfl (sizeDrw _ _)) rfl ⟨by rw [HVr.out]; rfl, HU1.out.setRow (by have := HOo.out; omega) _⟩
  have hk := chk_iff.1 (HE.out.trans h0)
  have HK := hid hk
  obtain ⟨R, hR⟩ : ∃ R, nzT h q 256 c = R := ⟨_, rfl⟩
  have HR := hid hR
  have HVr : Hid (V = .tuple #[bif R.2.2 then drw zeroH 0 else drw h R.2.1, .int .i64 R.1, .int .i64 (bif R.2.2 then 5 else 0)]) := hid (by rw [← HV.out, nznV, if_pos (HE.out.trans h0), hR])
  subst h0
  clear hk HE HV hR
  go_wp2_with (first
    | (refine wpList_load_row rfl 25 _ rfl w.heap.size rfl 25 (drwA h c) (0, 0) _ HB0.out Tryd.underlying25 rfl (sizeDrw _ _) ?_)
    | (refine wpList_buildTo rfl 110 _ rfl _ rfl (srcA h c false) (by kernel_rfl) ?_))
  have ho := HOo.out
  have l1 := HB1.out.lt
  have HS2 : Hid (Blk (w1.alloc (.cells (srcA h c false) 110)) w1.heap.size 110 (srcA h c false)) := hid (Blk.new rfl rfl)
  have HZ2 := hid (HB1.out.alloc (.cells (srcA h c false) 110))
  have HU2 := hid (HU1.out.alloc (.cells (srcA h c false) 110))
  have HT2 := hid (HT.out.up HU2.out)
  obtain ⟨b, hb⟩ : ∃ b, w1.heap.size = b := ⟨_, rfl⟩
  obtain ⟨w2, hw2⟩ : ∃ w2, w1.alloc (.cells (srcA h c false) 110) = w2 := ⟨_, rfl⟩
  rw [hb, hw2] at HS2
  rw [ho, hw2] at HZ2
  rw [hw2] at HU2 HT2
  have hob : o < b := by rw [← ho, ← hb]; exact l1
  have hwo : w.heap.size ≤ o := by omega
  have HC2 : Hid (0 ≤ c ∧ c ≤ 1099511627776) := hid HK.out.1
  rw [ho, hb, hw2]
  obtain ⟨o0, ho0⟩ : ∃ o0, w.heap.size = o0 := ⟨_, rfl⟩
  rw [ho0]
  have HO0 := hid ho0
  clear ho hb hw2 l1 HB0 HB1 HU1 HOo ho0
  go_loopw [20] (fun vi wr => ∃ (i : Nat) (d : Int), i ≤ 256 ∧ vi = .int .i64 i ∧ Hid (nzT h q (256 - i) d = R) ∧ Hid (0 ≤ d ∧ d ≤ 1099511627776) ∧ Hid (Blk wr b 110 (srcA h d false)) ∧ Hid (Blk wr o 25 (drwA zeroH 0)) ∧ Hid (Up w wr) ∧ Hid (TabS wr)) (fun vi _ => 256 - (intOf vi).toNat)
  case atStart => exact ⟨0, c, by omega, rfl, HR, HC2, HS2, HZ2, HU2, HT2⟩
  case round =>
    clear HS2 HZ2 HU2 HT2 HC2 HR
    obtain ⟨i, d, hi, rfl, HRi, HD, HS, HZ, HU, HTr⟩ := hrel
    by_cases hlt : i < 256
    · obtain ⟨n, hn⟩ : ∃ n, 256 - i = n + 1 := ⟨255 - i, by omega⟩
      have Hn := hid hn
      rw [hn] at HRi
      clear hn
      go_wp2_with fail
      refine (number_any h d false q b _ HTr.out HB.out HS.out HD.out.1 HD.out.2 (fun h => by cases h) (by have := HK.out.2.1; omega) HK.out.2.2).mono ?_
      rintro e w3 ⟨rfl, hS3, hg3⟩
      have HZ3 := hid (Blk.grownOut HZ.out hg3 (by omega))
      have HU3 := hid (Up.grownNew HU.out hg3 (by omega))
      have HT3 := hid (HTr.out.grown HS.out hg3)
      have HS3 := hid hS3
      obtain ⟨r0, r1⟩ := numT_range (h := h) (q := q) 256 d 0 HD.out.1 HD.out.2
      have HD3 : Hid (0 ≤ (numT h q 256 d 0).2.1 ∧ (numT h q 256 d 0).2.1 ≤ 1099511627776) := hid ⟨by have := HD.out.1; omega, r1⟩
      have P1 := hid (fun hf => nzT_full (h := h) (q := q) (n := n) (c := d) hf)
      have P2 := hid (fun hf h1 => nzT_num (h := h) (q := q) (n := n) (c := d) hf h1)
      have P3 := hid (fun hf h1 => nzT_next (h := h) (q := q) (n := n) (c := d) hf h1)
      rw [HRi.out] at P1 P2 P3
      clear hS3 hg3 HZ HU HTr HS r0 r1 HRi
      generalize (numT h q 256 d 0).1 = v at *
      generalize (numT h q 256 d 0).2.1 = c3 at *
      generalize (numT h q 256 d 0).2.2 = F at *
      have f0 := HS3.out.val (srcA_full h c3 F)
      have l0 := HS3.out.lt
      cases F with
      | true =>
        have hr : R = (0, d, true) := P1.out rfl
        subst hr
        clear P1 P2 P3
        go_wp2_with (refine wpList_store_rowTo rfl 25 _ _ rfl rfl o (drwA zeroH 0) ?_ ?_ 25 (drwA zeroH 0) ?_ ?_ ?_ ?_ ?_)
        · rfl
        · exact (congrArg Value.agg zero33)
        · exact HZ3.out
        · exact sizeDrw _ _
        · rfl
        · exact drwA_one _ _
        refine bodyPost_ret (v := .tuple #[.agg (drwA zeroH 0), .int .i64 0, .int .i64 5]) (results_row_tmp2 Tryd.results17 _ _ o 25 _ (0, 0) _ (by rfl) (HZ3.out.row _) Tryd.underlying25 rfl (sizeDrw _ _)) rfl ⟨by rw [HVr.out]; rfl, HU3.out.setRow (by have := HO0.out; omega) _⟩
      | false =>
        have hsd : (Tryd.prog.info? 25).map (·.size) = some (drwA h c3).toList.length := by rw [Array.length_toList]; exact sizeDrw h c3
        have Hsd := hid hsd
        clear hsd P1
        by_cases hv : v = 0
        · have d1 : (v != 0) = false := by simpa using hv
          have HRn : Hid (nzT h q (256 - (i + 1)) c3 = R) := hid (by rw [P3.out rfl hv, show 256 - (i + 1) = n by have := Hn.out; omega])
          clear hv P2 P3
          go_wp2_with fail
          go_roundw
          case rel => exact ⟨i + 1, c3, by omega, by go_num, HRn, HD3, HS3, HZ3, HU3, HT3⟩
          case measure => simp [intOf]; omega
        · have d1 : (v != 0) = true := by simpa using hv
          have hr : R = (v, c3, false) := P2.out rfl hv
          subst hr
          clear hv P2 P3
          go_wp2_with (first
            | (refine wpList_load_mid rfl 25 _ rfl b 0 rfl (drwA h c3).toList _ (src_drw HS3.out) Tryd.underlying25 rfl Hsd.out ?_; rw [Array.toArray_toList])
            | (refine wpList_store_rowTo rfl 25 _ _ rfl rfl o (drwA h c3) rfl rfl 25 (drwA zeroH 0) HZ3.out (sizeDrw _ _) (by rw [drwA_size, drwA_size]) (drwA_one _ _) ?_))
          refine bodyPost_ret (v := .tuple #[.agg (drwA h c3), .int .i64 v, .int .i64 0]) (results_row_tmp2 Tryd.results17 _ _ o 25 _ (0, 0) _ (by rfl) (HZ3.out.row _) Tryd.underlying25 rfl (sizeDrw _ _)) rfl ⟨by rw [HVr.out]; rfl, HU3.out.setRow (by have := HO0.out; omega) _⟩
    · obtain rfl : i = 256 := by omega
      have hr : R = (1, d, false) := HRi.out.symm
      subst hr
      have hsd : (Tryd.prog.info? 25).map (·.size) = some (drwA h d).toList.length := by rw [Array.length_toList]; exact sizeDrw h d
      have Hsd := hid hsd
      have l0 := HS.out.lt
      clear hsd
      go_wp2_with (first
        | (refine wpList_load_mid rfl 25 _ rfl b 0 rfl (drwA h d).toList _ (src_drw HS.out) Tryd.underlying25 rfl Hsd.out ?_; rw [Array.toArray_toList])
        | (refine wpList_store_rowTo rfl 25 _ _ rfl rfl o (drwA h d) rfl rfl 25 (drwA zeroH 0) HZ.out (sizeDrw _ _) (by rw [drwA_size, drwA_size]) (drwA_one _ _) ?_))
      refine bodyPost_ret (v := .tuple #[.agg (drwA h d), .int .i64 1, .int .i64 0]) (results_row_tmp2 Tryd.results17 _ _ o 25 _ (0, 0) _ (by rfl) (HZ.out.row _) Tryd.underlying25 rfl (sizeDrw _ _)) rfl ⟨by rw [HVr.out]; rfl, HU.out.setRow (by have := HO0.out; omega) _⟩
end Go.Proofs.YtdlcmpbpdbpanaaDoor
namespace Go.Proofs.YtdlcmpbpdbpanaaDoor
open Go.RowKit Go.Sp
set_option maxHeartbeats 2000000
set_option maxRecDepth 20000

/-- The text ahead of a source's seed. -/
def drawTag : ByteArray := { data := #[115, 112, 101, 99, 105, 101, 47, 100, 114, 97, 119] }

/-- What New returns. -/
def newV (xs : List Int) : Value := if xs.length ≤ 16384 then .tuple #[drw (tagB (txt drawTag) xs) 0, .int .i64 0] else .tuple #[drw zeroH 0, .int .i64 5]

theorem New_any (v : Value) (xs : List Int) (w : World) (hT : TabS w) (hv : SeqAt .u8 w v xs) (hB : ∀ x ∈ xs, 0 ≤ x ∧ x ≤ 255) :
    Calls Tryd.prog 18 #[v] w fun e w' => e = .returned (newV xs) ∧ Up w w' := by
  have HT := hid hT
  have HV := hid hv
  have HB := hid hB
  obtain ⟨V, hV⟩ : ∃ V, newV xs = V := ⟨_, rfl⟩
  have HNv := hid hV
  rw [hV]
  obtain ⟨a, cap, rfl, h1, h2⟩ := hv.shape
  obtain ⟨n, hn⟩ : ∃ n, xs.length = n := ⟨_, rfl⟩
  have HN := hid hn
  rw [hn] at HV h1
  rw [hn]
  clear hT hv hB hV hn
  by_cases hl : n ≤ 16384
  case neg =>
    have d1 : decide ((n : Int) > 16384) = true := by simp; omega
    have HVr : Hid (V = .tuple #[drw zeroH 0, .int .i64 5]) := hid (by rw [← HNv.out, newV, if_neg (by rw [HN.out]; exact hl)])
    clear hl
    go_enter Tryd.func18, Tryd.ntmps18
    go_wp2_with (refine wpList_store_rowTo rfl 25 _ _ rfl rfl w.heap.size (drwA zeroH 0) ?_ ?_ 25 (drwA zeroH 0) ?_ ?_ ?_ ?_ ?_)
    · rfl
    · exact (congrArg Value.agg zero33)
    · exact Blk.new rfl zero33
    · exact sizeDrw _ _
    · rfl
    · exact drwA_one _ _
    refine bodyPost_ret (v := .tuple #[.agg (drwA zeroH 0), .int .i64 5]) (results_row_tmp Tryd.results18 _ _ w.heap.size 25 _ (0, 0) _ (by rfl) ((Blk.new (cs' := drwA zeroH 0) rfl zero33).row _) Tryd.underlying25 rfl (sizeDrw _ _)) rfl ⟨by rw [HVr.out]; rfl, ((Up.refl w).alloc _).setRow (Nat.le_refl _) _⟩
  have d1 : decide ((n : Int) > 16384) = false := by simp; omega
  have HVr : Hid (V = .tuple #[drw (tagB (txt drawTag) xs) 0, .int .i64 0]) := hid (by rw [← HNv.out, newV, if_pos (by rw [HN.out]; exact hl)])
  have HTg := hid (fun w' (hU : Up w w') => Tagged_any drawTag (.slice a n cap) xs w' (HT.out.up hU) (by decide) (by decide) (HV.out.up hU) (by rw [HN.out]; omega) HB.out)
  obtain ⟨H, hH⟩ : ∃ H, tagB (txt drawTag) xs = H := ⟨_, rfl⟩
  rw [hH] at HTg HVr
  clear hH hl HNv
  go_enter Tryd.func18, Tryd.ntmps18
  have hZ := Blk.new (w := w) (t := 25) (g := w.heap.size) rfl zero33
  have HZ := hid hZ
  clear hZ
  go_wp2_with fail
  refine (HTg.out _ ((Up.refl w).alloc _)).mono ?_
  rintro e w1 ⟨rfl, hU1⟩
  have HZ1 := hid (HZ.out.up hU1)
  have HU1 := hid (((Up.refl w).alloc _).trans hU1)
  obtain ⟨o, ho⟩ : ∃ o, w.heap.size = o := ⟨_, rfl⟩
  have HOo := hid ho
  rw [ho] at HZ1
  rw [ho]
  clear hU1 HZ ho HTg
  have l0 := HZ1.out.lt
  unfold hashV
  go_wp2_with (first
    | (refine wpList_store_rowTo rfl 23 _ _ rfl rfl _ _ rfl rfl 23 _ (heap_alloc_new _ _) (by rw [arrK_size]; kernel_rfl) (by rw [arrK_size]; rfl) arrK_one ?_; rw [World.setRow_alloc_new])
    | (refine wpList_load_row rfl 23 _ rfl w1.heap.size rfl 23 (arrK .u8 H 32) (0, 0) _ (Blk.new rfl rfl) Tryd.underlying23 rfl (by rw [arrK_size]; kernel_rfl) ?_)
    | (refine wpList_buildTo rfl 25 _ rfl _ rfl (drwA H 0) (by kernel_rfl) ?_)
    | (refine wpList_store_rowTo rfl 25 _ _ rfl rfl o (drwA H 0) rfl rfl 25 (drwA zeroH 0) (HZ1.out.alloc _) (sizeDrw _ _) (by rw [drwA_size, drwA_size]) (drwA_one _ _) ?_))
  refine bodyPost_ret (v := .tuple #[.agg (drwA H 0), .int .i64 0]) (results_row_tmp Tryd.results18 _ _ o 25 _ (0, 0) _ (by rfl) ((HZ1.out.alloc _).row _) Tryd.underlying25 rfl (sizeDrw _ _)) rfl ⟨by rw [HVr.out]; rfl, (HU1.out.alloc _).setRow (by have := HOo.out; omega) _⟩
end Go.Proofs.YtdlcmpbpdbpanaaDoor
