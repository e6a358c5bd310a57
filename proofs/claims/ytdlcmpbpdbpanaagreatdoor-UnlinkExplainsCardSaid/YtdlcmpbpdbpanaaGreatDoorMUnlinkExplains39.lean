/- Package draw: Next. Package draw: Nonzero. -/
import Derived.Test.YtdlcmpbpdbpanaaGreatDoorMUnlinkExplains38
namespace Go.Proofs.YtdlcmpbpdbpanaaGreatDoor
open Go.RowKit Go.Sp
set_option maxHeartbeats 2000000
set_option maxRecDepth 20000

/-- What Next returns. -/
def nxtV (h : Nat → Int) (c q : Int) : Value :=
  if chkE c q 1 2305843009213693951 = 0 then .tuple #[bif (numT h q 256 c 0).2.2 then drw zeroH 0 else drw h (numT h q 256 c 0).2.1, .int .i64 (numT h q 256 c 0).1, .int .i64 (bif (numT h q 256 c 0).2.2 then 5 else 0)]
  else .tuple #[drw zeroH 0, .int .i64 0, .int .i64 (chkE c q 1 2305843009213693951)]

theorem chk_iff {c n lo hi : Int} : chkE c n lo hi = 0 ↔ (0 ≤ c ∧ c ≤ 1099511627776) ∧ lo ≤ n ∧ n ≤ hi := by
  unfold chkE
  rw [← dvB_iff]
  by_cases h1 : dvB c = true
  · by_cases h2 : lo ≤ n ∧ n ≤ hi
    · simp [h1, h2]
    · simp [h1, h2]
  · simp [h1]

theorem Up.grownNew {w w1 w2 : World} {b : Nat} (hU : Up w w1) (hg : w1.grownBy w2 (some b)) (hb : w.heap.size ≤ b) : Up w w2 :=
  Below.grown hU.below hg hU.size (fun k hk => by simp at hk; omega)

end Go.Proofs.YtdlcmpbpdbpanaaGreatDoor
namespace Go.Proofs.YtdlcmpbpdbpanaaGreatDoor
open Go.RowKit Go.Sp
set_option maxHeartbeats 2000000
set_option maxRecDepth 20000

theorem numT_range {h : Nat → Int} {q : Int} : ∀ (n : Nat) (c x : Int), 0 ≤ c → c ≤ 1099511627776 → c ≤ (numT h q n c x).2.1 ∧ (numT h q n c x).2.1 ≤ 1099511627776
  | 0, c, x, h0, h1 => ⟨Int.le_refl _, h1⟩
  | n + 1, c, x, h0, h1 => by
    by_cases hc : c = 1099511627776
    · rw [numT, if_pos hc]; exact ⟨Int.le_refl _, h1⟩
    · rw [numT, if_neg hc]
      split
      · exact ⟨by simp; omega, by simp; omega⟩
      · have := numT_range (h := h) (q := q) n (c + 1) (firK (shaB (posL h c)) 8 % 2 ^ maskN q) (by omega) (by omega)
        omega

/-- A number other than 0: the number, the counter, and whether there was no block. -/
def nzT (h : Nat → Int) (q : Int) : Nat → Int → Int × Int × Bool
  | 0, c => (1, c, false)
  | n + 1, c => if (numT h q 256 c 0).2.2 = true then (0, c, true) else if (numT h q 256 c 0).1 ≠ 0 then ((numT h q 256 c 0).1, (numT h q 256 c 0).2.1, false) else nzT h q n (numT h q 256 c 0).2.1

/-- What Nonzero returns. -/
def nznV (h : Nat → Int) (c q : Int) : Value :=
  if chkE c q 2 2305843009213693951 = 0 then .tuple #[bif (nzT h q 256 c).2.2 then drw zeroH 0 else drw h (nzT h q 256 c).2.1, .int .i64 (nzT h q 256 c).1, .int .i64 (bif (nzT h q 256 c).2.2 then 5 else 0)]
  else .tuple #[drw zeroH 0, .int .i64 0, .int .i64 (chkE c q 2 2305843009213693951)]

theorem nzT_full {h : Nat → Int} {q : Int} {n : Nat} {c : Int} (hf : (numT h q 256 c 0).2.2 = true) : nzT h q (n + 1) c = (0, c, true) := by rw [nzT, if_pos hf]
theorem nzT_num {h : Nat → Int} {q : Int} {n : Nat} {c : Int} (hf : (numT h q 256 c 0).2.2 = false) (h1 : (numT h q 256 c 0).1 ≠ 0) : nzT h q (n + 1) c = ((numT h q 256 c 0).1, (numT h q 256 c 0).2.1, false) := by
  rw [nzT, if_neg (by simp [hf]), if_pos h1]
theorem nzT_next {h : Nat → Int} {q : Int} {n : Nat} {c : Int} (hf : (numT h q 256 c 0).2.2 = false) (h1 : (numT h q 256 c 0).1 = 0) : nzT h q (n + 1) c = nzT h q n (numT h q 256 c 0).2.1 := by
  rw [nzT, if_neg (by simp [hf]), if_neg (by simp [h1])]

theorem Nonzero_any (h : Nat → Int) (c q : Int) (w : World) (hT : TabS w) (hB : Byt h) :
    Calls Tryz.prog 190 #[drw h c, .int .i64 q] w fun e w' => e = .returned (nznV h c q) ∧ Up w w' := by
  have HT := hid hT
  have HB := hid hB
  obtain ⟨E, hE⟩ : ∃ E, chkE c q 2 2305843009213693951 = E := ⟨_, rfl⟩
  have HE := hid hE
  obtain ⟨V, hV⟩ : ∃ V, nznV h c q = V := ⟨_, rfl⟩
  have HV := hid hV
  rw [hV]
  clear hT hB hV
  have HC := hid (fun w' => check_draw_any h c q 2 2305843009213693951 w')
  rw [hE] at HC
  clear hE
  unfold drw at HC ⊢
  go_enter Tryz.func190, Tryz.ntmps190
  have hB0 := Blk.new (w := w) (t := 158) (cs := drwA h c) rfl rfl
  have hB1 := Blk.new (w := w.alloc (.cells (drwA h c) 158)) (t := 158) (g := w.heap.size + 1) (by simp) zero33
  go_wp2_with (refine wpList_load_row rfl 158 _ rfl w.heap.size rfl 158 (drwA h c) (0, 0) _ (hB0.alloc _) Tryz.underlying158 rfl (sizeDrw _ _) ?_)
  refine (HC.out _).mono ?_
  rintro e w1 ⟨rfl, hU1⟩
  have HB0 := hid ((hB0.alloc _).up hU1)
  have HB1 := hid (hB1.up hU1)
  have HU1 := hid ((((Up.refl w).alloc _).alloc _).trans hU1)
  clear hU1 hB0 hB1 HC
  obtain ⟨o, ho⟩ : ∃ o, w.heap.size + 1 = o := ⟨_, rfl⟩
  have HOo := hid ho
  clear ho
  by_cases h0 : E = 0
  case neg =>
    have d1 : (E != 0) = true := by simpa using h0
    have HVr : Hid (V = .tuple #[drw zeroH 0, .int .i64 0, .int .i64 E]) := hid (by rw [← HV.out, nznV, HE.out, if_neg h0])
    clear h0
    rw [HOo.out] at HB1
    rw [HOo.out]
    go_wp2_with (refine wpList_store_rowTo rfl 158 _ _ rfl rfl o (drwA zeroH 0) ?_ ?_ 158 (drwA zeroH 0) ?_ ?_ ?_ ?_ ?_)
    · rfl
    · exact (congrArg Value.agg zero33)
    · exact HB1.out
    · exact sizeDrw _ _
    · rfl
    · exact drwA_one _ _
    refine bodyPost_ret (v := .tuple #[.agg (drwA zeroH 0), .int .i64 0, .int .i64 E]) (results_row_tmp2 Tryz.results190 _ _ o 158 _ (0, 0) _ (by rfl) (HB1.out.row _) Tryz.underlying158 rfl (sizeDrw _ _)) rfl ⟨by rw [HVr.out]; rfl, HU1.out.setRow (by have := HOo.out; omega) _⟩
  have hk := chk_iff.1 (HE.out.trans h0)
  have HK := hid hk
  obtain ⟨R, hR⟩ : ∃ R, nzT h q 256 c = R := ⟨_, rfl⟩
  have HR := hid hR
  have HVr : Hid (V = .tuple #[bif R.2.2 then drw zeroH 0 else drw h R.2.1, .int .i64 R.1, .int .i64 (bif R.2.2 then 5 else 0)]) := hid (by rw [← HV.out, nznV, if_pos (HE.out.trans h0), hR])
  subst h0
  clear hk HE HV hR
  go_wp2_with (first
    | (refine wpList_load_row rfl 158 _ rfl w.heap.size rfl 158 (drwA h c) (0, 0) _ HB0.out Tryz.underlying158 rfl (sizeDrw _ _) ?_)
    | (refine wpList_buildTo rfl 250 _ rfl _ rfl (srcA h c false) (by kernel_rfl) ?_))
  have ho := HOo.out
  have l1 := HB1.out.lt
  have HS2 : Hid (Blk (w1.alloc (.cells (srcA h c false) 250)) w1.heap.size 250 (srcA h c false)) := hid (Blk.new rfl rfl)
  have HZ2 := hid (HB1.out.alloc (.cells (srcA h c false) 250))
  have HU2 := hid (HU1.out.alloc (.cells (srcA h c false) 250))
  have HT2 := hid (HT.out.up HU2.out)
  obtain ⟨b, hb⟩ : ∃ b, w1.heap.size = b := ⟨_, rfl⟩
  obtain ⟨w2, hw2⟩ : ∃ w2, w1.alloc (.cells (srcA h c false) 250) = w2 := ⟨_, rfl⟩
  rw [hb, hw2] at HS2
  rw [ho, hw2] at HZ2
  rw [hw2] at HU2 HT2
  have hob : o < b := by rw [← ho, ← hb]; exact l1
  have hwo : w.heap.size ≤ o := by omega
  have HC2 : Hid (0 ≤ c ∧ c ≤ 1099511627776) := hid HK.out.1
  rw [ho, hb, hw2]
  obtain ⟨o0, ho0⟩ : ∃ o0, w.heap.size = o0 := ⟨_, rfl⟩
  rw [ho0]
  have HO0 := hid ho0
  clear ho hb hw2 l1 HB0 HB1 HU1 HOo ho0
  go_loopw [20] (fun vi wr => ∃ (i : Nat) (d : Int), i ≤ 256 ∧ vi = .int .i64 i ∧ Hid (nzT h q (256 - i) d = R) ∧ Hid (0 ≤ d ∧ d ≤ 1099511627776) ∧ Hid (Blk wr b 250 (srcA h d false)) ∧ Hid (Blk wr o 158 (drwA zeroH 0)) ∧ Hid (Up w wr) ∧ Hid (TabS wr)) (fun vi _ => 256 - (intOf vi).toNat)
  case atStart => exact ⟨0, c, by omega, rfl, HR, HC2, HS2, HZ2, HU2, HT2⟩
  case round =>
    clear HS2 HZ2 HU2 HT2 HC2 HR
    obtain ⟨i, d, hi, rfl, HRi, HD, HS, HZ, HU, HTr⟩ := hrel
    by_cases hlt : i < 256
    · obtain ⟨n, hn⟩ : ∃ n, 256 - i = n + 1 := ⟨255 - i, by omega⟩
      have Hn := hid hn
      rw [hn] at HRi
      clear hn
      go_wp2_with fail
      refine (number_any h d false q b _ HTr.out HB.out HS.out HD.out.1 HD.out.2 (fun h => by cases h) (by have := HK.out.2.1; omega) HK.out.2.2).mono ?_
      rintro e w3 ⟨rfl, hS3, hg3⟩
      have HZ3 := hid (Blk.grownOut HZ.out hg3 (by omega))
      have HU3 := hid (Up.grownNew HU.out hg3 (by omega))
      have HT3 := hid (HTr.out.grown HS.out hg3)
      have HS3 := hid hS3
      obtain ⟨r0, r1⟩ := numT_range (h := h) (q := q) 256 d 0 HD.out.1 HD.out.2
      have HD3 : Hid (0 ≤ (numT h q 256 d 0).2.1 ∧ (numT h q 256 d 0).2.1 ≤ 1099511627776) := hid ⟨by have := HD.out.1; omega, r1⟩
      have P1 := hid (fun hf => nzT_full (h := h) (q := q) (n := n) (c := d) hf)
      have P2 := hid (fun hf h1 => nzT_num (h := h) (q := q) (n := n) (c := d) hf h1)
      have P3 := hid (fun hf h1 => nzT_next (h := h) (q := q) (n := n) (c := d) hf h1)
      rw [HRi.out] at P1 P2 P3
      clear hS3 hg3 HZ HU HTr HS r0 r1 HRi
      generalize (numT h q 256 d 0).1 = v at *
      generalize (numT h q 256 d 0).2.1 = c3 at *
      generalize (numT h q 256 d 0).2.2 = F at *
      have f0 := HS3.out.val (srcA_full h c3 F)
      have l0 := HS3.out.lt
      cases F with
      | true =>
        have hr : R = (0, d, true) := P1.out rfl
        subst hr
        clear P1 P2 P3
        go_wp2_with (refine wpList_store_rowTo rfl 158 _ _ rfl rfl o (drwA zeroH 0) ?_ ?_ 158 (drwA zeroH 0) ?_ ?_ ?_ ?_ ?_)
        · rfl
        · exact (congrArg Value.agg zero33)
        · exact HZ3.out
        · exact sizeDrw _ _
        · rfl
        · exact drwA_one _ _
        refine bodyPost_ret (v := .tuple #[.agg (drwA zeroH 0), .int .i64 0, .int .i64 5]) (results_row_tmp2 Tryz.results190 _ _ o 158 _ (0, 0) _ (by rfl) (HZ3.out.row _) Tryz.underlying158 rfl (sizeDrw _ _)) rfl ⟨by rw [HVr.out]; rfl, HU3.out.setRow (by have := HO0.out; omega) _⟩
      | false =>
        have hsd : (Tryz.prog.info? 158).map (·.size) = some (drwA h c3).toList.length := by rw [Array.length_toList]; exact sizeDrw h c3
        have Hsd := hid hsd
        clear hsd P1
        by_cases hv : v = 0
        · have d1 : (v != 0) = false := by simpa using hv
          have HRn : Hid (nzT h q (256 - (i + 1)) c3 = R) := hid (by rw [P3.out rfl hv, show 256 - (i + 1) = n by have := Hn.out; omega])
          clear hv P2 P3
          go_wp2_with fail
          go_roundw
          case rel => exact ⟨i + 1, c3, by omega, by go_num, HRn, HD3, HS3, HZ3, HU3, HT3⟩
          case measure => simp [intOf]; omega
        · have d1 : (v != 0) = true := by simpa using hv
          have hr : R = (v, c3, false) := P2.out rfl hv
          subst hr
          clear hv P2 P3
          go_wp2_with (first
            | (refine wpList_load_mid rfl 158 _ rfl b 0 rfl (drwA h c3).toList _ (src_drw HS3.out) Tryz.underlying158 rfl Hsd.out ?_; rw [Array.toArray_toList])
            | (refine wpList_store_rowTo rfl 158 _ _ rfl rfl o (drwA h c3) rfl rfl 158 (drwA zeroH 0) HZ3.out (sizeDrw _ _) (by rw [drwA_size, drwA_size]) (drwA_one _ _) ?_))
          refine bodyPost_ret (v := .tuple #[.agg (drwA h c3), .int .i64 v, .int .i64 0]) (results_row_tmp2 Tryz.results190 _ _ o 158 _ (0, 0) _ (by rfl) (HZ3.out.row _) Tryz.underlying158 rfl (sizeDrw _ _)) rfl ⟨by rw [HVr.out]; rfl, HU3.out.setRow (by have := HO0.out; omega) _⟩
    · obtain rfl : i = 256 := by omega
      have hr : R = (1, d, false) := HRi.out.symm
      subst hr
      have hsd : (Tryz.prog.info? 158).map (·.size) = some (drwA h d).toList.length := by rw [Array.length_toList]; exact sizeDrw h d
      have Hsd := hid hsd
      have l0 := HS.out.lt
      clear hsd
      go_wp2_with (first
        | (refine wpList_load_mid rfl 158 _ rfl b 0 rfl (drwA h d).toList _ (src_drw HS.out) Tryz.underlying158 rfl Hsd.out ?_; rw [Array.toArray_toList])
        | (refine wpList_store_rowTo rfl 158 _ _ rfl rfl o (drwA h d) rfl rfl 158 (drwA zeroH 0) HZ.out (sizeDrw _ _) (by rw [drwA_size, drwA_size]) (drwA_one _ _) ?_))
      refine bodyPost_ret (v := .tuple #[.agg (drwA h d), .int .i64 1, .int .i64 0]) (results_row_tmp2 Tryz.results190 _ _ o 158 _ (0, 0) _ (by rfl) (HZ.out.row _) Tryz.underlying158 rfl (sizeDrw _ _)) rfl ⟨by rw [HVr.out]; rfl, HU.out.setRow (by have := HO0.out; omega) _⟩
end Go.Proofs.YtdlcmpbpdbpanaaGreatDoor
