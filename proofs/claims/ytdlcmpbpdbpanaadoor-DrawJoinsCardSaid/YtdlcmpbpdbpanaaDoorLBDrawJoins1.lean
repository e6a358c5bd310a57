/- A number of 16 bits among the arguments. draw.List. slices.Equal of equal bytes; plain laws of lists of numbers and of blocks. draw.Bytes: its bytes lie apart from all older blocks. -/
import Derived.Test.YtdlcmpbpdbpanaaDoorMB30
import Derived.Test.YtdlcmpbpdbpanaaDoorMB31
import Derived.Test.YtdlcmpbpdbpanaaDoorMB19
import Derived.Test.YtdlcmpbpdbpanaaDoorMB18
import Derived.Test.YtdlcmpbpdbpanaaDoorMB14
import Derived.Test.YtdlcmpbpdbpanaaDoorMB23
import Derived.Test.YtdlcmpbpdbpanaaDoorMB12
namespace Go.Proofs.YtdlcmpbpdbpanaaDoor
open Go.ChangeShapes Go.WideShapes Go.ChangeAt Go.RowKit Go.Sp Go.Joins Go.Deep
set_option maxRecDepth 100000 in
theorem open_u16 {H : Type} {enc : TypeId × Value → H} {r : Reach} {b0 base : Nat} {spare : Nat → Bool} {held : Bool} {w : World} {v : Value} {d : DataW H} {p : List MemPlace}
    (hv : Value.okWide Tryd.prog w r b0 43 v) (h : DataW.Trod enc Tryd.prog w base spare held 43 v d p) :
    ∃ x : Int, v = .int .u16 x ∧ 0 ≤ x ∧ x ≤ 65535 := by
  obtain ⟨x, rfl, rfl, rfl, wx⟩ := open_int Tryd.underlying43 hv h
  have a : IntKind.u16.min = 0 := by decide
  have b : IntKind.u16.max = 65535 := by decide
  simp [Lit.wf, a, b] at wx
  exact ⟨x, rfl, by omega, by omega⟩
end Go.Proofs.YtdlcmpbpdbpanaaDoor
namespace Go.Proofs.YtdlcmpbpdbpanaaDoor
open Go.RowKit Go.Sp
set_option maxHeartbeats 4000000
set_option maxRecDepth 20000

def lisE (h : Nat → Int) (c q n : Int) : Int := if chkE c q 1 2305843009213693951 = 0 then (if chkE c n 0 1000 = 0 then (if lstF h q c n.toNat = true then 5 else 0) else chkE c n 0 1000) else chkE c q 1 2305843009213693951
def lisD (h : Nat → Int) (c q n : Int) : Value := if lisE h c q n = 0 then drw h (lstC h q c n.toNat) else drw zeroH 0
def lisL (h : Nat → Int) (c q n : Int) : List Int := if lisE h c q n = 0 then lstL h q c n.toNat else []
def LisOut (h : Nat → Int) (c q n : Int) (w : World) (e : Ending) (w' : World) : Prop :=
  ∃ v, e = .returned (.tuple #[lisD h c q n, v, .int .i64 (lisE h c q n)]) ∧ SeqAt .i64 w' v (lisL h c q n) ∧ Up w w'
theorem lis_bad {h : Nat → Int} {c q n E : Int} (he : lisE h c q n = E) (h0 : E ≠ 0) : lisD h c q n = drw zeroH 0 ∧ lisE h c q n = E ∧ lisL h c q n = [] := ⟨by rw [lisD, he, if_neg h0], he, by rw [lisL, he, if_neg h0]⟩

theorem List_any (h : Nat → Int) (c q n : Int) (w : World) (hT : TabS w) (hB : Byt h) :
    Calls Tryd.prog 23 #[drw h c, .int .i64 q, .int .i64 n] w (LisOut h c q n w) := by
  have HT := hid hT
  have HB := hid hB
  obtain ⟨E1, hE1⟩ : ∃ E, chkE c q 1 2305843009213693951 = E := ⟨_, rfl⟩
  obtain ⟨E2, hE2⟩ : ∃ E, chkE c n 0 1000 = E := ⟨_, rfl⟩
  have HE1 := hid hE1
  have HE2 := hid hE2
  clear hT hB
  have HC1 := hid (fun w' => check_draw_any h c q 1 2305843009213693951 w')
  have HC2 := hid (fun w' => check_draw_any h c n 0 1000 w')
  rw [hE1] at HC1
  rw [hE2] at HC2
  clear hE1 hE2
  unfold drw at HC1 HC2 ⊢
  go_enter Tryd.func23, Tryd.ntmps23
  have hB0 := Blk.new (w := w) (t := 25) (cs := drwA h c) rfl rfl
  have hB1 := Blk.new (w := w.alloc (.cells (drwA h c) 25)) (t := 25) (g := w.heap.size + 1) (by simp) zero33
  go_wp2_with (refine wpList_load_row rfl 25 _ rfl w.heap.size rfl 25 (drwA h c) (0, 0) _ (hB0.alloc _) Tryd.underlying25 rfl (sizeDrw _ _) ?_)
  refine (HC1.out _).mono ?_
  rintro e w1 ⟨rfl, hU1⟩
  have HB1 := hid ((hB0.alloc _).up hU1)
  have HZ1 := hid (hB1.up hU1)
  have HU1 := hid ((((Up.refl w).alloc _).alloc _).trans hU1)
  clear hU1 hB0 hB1 HC1
  obtain ⟨o, ho⟩ : ∃ o, w.heap.size = o := ⟨_, rfl⟩
  have HOo := hid ho
  rw [ho] at HB1 HZ1
  rw [ho]
  clear ho
  obtain ⟨o1, ho1⟩ : ∃ o1, o + 1 = o1 := ⟨_, rfl⟩
  have HO1 := hid ho1
  rw [ho1] at HZ1
  rw [ho1]
  clear ho1
  by_cases h1 : E1 = 0
  case neg =>
    have d0 : (E1 == 0) = false := by simpa using h1
    have d1 : (E1 != 0) = true := by simpa using h1
    have HVr := hid (lis_bad (h := h) (c := c) (q := q) (n := n) (E := E1) (by rw [lisE, HE1.out, if_neg h1]) h1)
    clear h1
    go_wp2_with (first
      | (refine wpList_store_rowTo rfl 25 _ _ rfl rfl o1 (drwA zeroH 0) ?_ ?_ 25 (drwA zeroH 0) ?_ ?_ ?_ ?_ ?_))
    · rfl
    · exact (congrArg Value.agg zero33)
    · exact HZ1.out
    · exact sizeDrw _ _
    · rfl
    · exact drwA_one _ _
    refine bodyPost_ret (v := .tuple #[.agg (drwA zeroH 0), .slice none 0 0, .int .i64 E1]) (results_row_tmp2 Tryd.results23 _ _ o1 25 _ (0, 0) _ (by rfl) (HZ1.out.row _) Tryd.underlying25 rfl (sizeDrw _ _)) rfl ⟨.slice none 0 0, by rw [HVr.out.1, HVr.out.2.1]; rfl, by rw [HVr.out.2.2]; exact seq_none, HU1.out.setRow (by have := HOo.out; have := HO1.out; omega) _⟩
  have HK1 := hid (chk_iff.1 (HE1.out.trans h1))
  have HF1 : Hid (lisE h c q n = if E2 = 0 then (if lstF h q c n.toNat = true then 5 else 0) else E2) := hid (by rw [lisE, HE1.out, if_pos h1, HE2.out])
  subst h1
  clear HE1
  go_wp2_with (refine wpList_load_row rfl 25 _ rfl o rfl 25 (drwA h c) (0, 0) _ HB1.out Tryd.underlying25 rfl (sizeDrw _ _) ?_)
  refine (HC2.out _).mono ?_
  rintro e w2 ⟨rfl, hU2⟩
  have HB2 := hid (HB1.out.up hU2)
  have HZ2 := hid (HZ1.out.up hU2)
  have HU2 := hid (HU1.out.trans hU2)
  clear hU2 HB1 HZ1 HU1 HC2
  by_cases h2 : E2 = 0
  case neg =>
    have d1 : (E2 != 0) = true := by simpa using h2
    have HVr := hid (lis_bad (h := h) (c := c) (q := q) (n := n) (E := E2) (by rw [HF1.out, if_neg h2]) h2)
    clear h2
    go_wp2_with (first
      | (refine wpList_store_rowTo rfl 25 _ _ rfl rfl o1 (drwA zeroH 0) ?_ ?_ 25 (drwA zeroH 0) ?_ ?_ ?_ ?_ ?_))
    · rfl
    · exact (congrArg Value.agg zero33)
    · exact HZ2.out
    · exact sizeDrw _ _
    · rfl
    · exact drwA_one _ _
    refine bodyPost_ret (v := .tuple #[.agg (drwA zeroH 0), .slice none 0 0, .int .i64 E2]) (results_row_tmp2 Tryd.results23 _ _ o1 25 _ (0, 0) _ (by rfl) (HZ2.out.row _) Tryd.underlying25 rfl (sizeDrw _ _)) rfl ⟨.slice none 0 0, by rw [HVr.out.1, HVr.out.2.1]; rfl, by rw [HVr.out.2.2]; exact seq_none, HU2.out.setRow (by have := HOo.out; have := HO1.out; omega) _⟩
  have HK2 := hid (chk_iff.1 (HE2.out.trans h2))
  have HF2 : Hid (lisE h c q n = if lstF h q c n.toNat = true then 5 else 0) := hid (by rw [HF1.out, if_pos h2])
  subst h2
  clear HE2 HF1
  obtain ⟨N, hN, hN1⟩ : ∃ N : Nat, n = N ∧ N ≤ 1000 := ⟨n.toNat, by have := HK2.out.2.1; omega, by have := HK2.out.2.2; omega⟩
  subst hN
  rw [Int.toNat_natCast] at HF2
  have HDv : Hid (lisD h c q N = if lisE h c q N = 0 then drw h (lstC h q c N) else drw zeroH 0) := hid (by rw [lisD, Int.toNat_natCast])
  have HLv : Hid (lisL h c q N = if lisE h c q N = 0 then lstL h q c N else []) := hid (by rw [lisL, Int.toNat_natCast])
  go_wp2_with (first
    | (refine wpList_load_row rfl 25 _ rfl o rfl 25 (drwA h c) (0, 0) _ HB2.out Tryd.underlying25 rfl (sizeDrw _ _) ?_)
    | (refine wpList_buildTo rfl 110 _ rfl _ rfl (srcA h c false) (by kernel_rfl) ?_))
  have hob : o1 < w2.heap.size := HZ2.out.lt
  obtain ⟨b, hb⟩ : ∃ b, w2.heap.size = b := ⟨_, rfl⟩
  have HS3 : Hid (Blk (w2.alloc (.cells (srcA h c false) 110)) b 110 (srcA h c false)) := hid (Blk.new hb rfl)
  have HB3 := hid (HB2.out.alloc (.cells (srcA h c false) 110))
  have HZ3 := hid (HZ2.out.alloc (.cells (srcA h c false) 110))
  have HU3 := hid (HU2.out.alloc (.cells (srcA h c false) 110))
  have hsb : b < (w2.alloc (.cells (srcA h c false) 110)).heap.size := by simp [hb]
  rw [hb] at hob
  rw [hb]
  clear hb HB2 HZ2 HU2
  generalize w2.alloc (.cells (srcA h c false) 110) = w3 at *
  have HT3 := hid (HT.out.up HU3.out)
  have HLs := hid (lstL_succ h q c)
  have HLn := hid (lstL_length h q c)
  go_loopw [11, 28] (fun vo vi wr => ∃ (k : Nat) (p : Option Addr) (cp : Nat), k ≤ N ∧ vi = .int .i64 k ∧ vo = .slice p k cp ∧ Hid (OwnS 3 .i64 wr (b + 1) (.slice p k cp) (lstL h q c k)) ∧ b < wr.heap.size ∧ Hid (Blk wr b 110 (srcA h (lstC h q c k) (lstF h q c k))) ∧ Hid (Blk wr o 25 (drwA h c)) ∧ Hid (Blk wr o1 25 (drwA zeroH 0)) ∧ Hid (Up w wr) ∧ Hid (TabS wr)) (fun _ vi _ => N - (intOf vi).toNat)
  case atStart => exact ⟨0, none, 0, by omega, rfl, rfl, hid own_none, hsb, HS3, HB3, HZ3, HU3, HT3⟩
  case round =>
    clear HS3 HB3 HZ3 HU3 HT3 hsb
    obtain ⟨k, p, cp, hk, rfl, rfl, HO, hbs, HS, HBo, HZ, HU, HTr⟩ := hrel
    have hoo : o < o1 := by have := HO1.out; omega
    by_cases hlt : k < N
    · have HR := hid (lstC_range (h := h) (q := q) HK1.out.1.1 HK1.out.1.2 k)
      have HM := hid (number_any h (lstC h q c k) (lstF h q c k) q b wr HTr.out HB.out HS.out HR.out.1 HR.out.2 (lstF_stuck k) HK1.out.2.1 HK1.out.2.2)
      have HX1 : Hid ((numT h q 256 (lstC h q c k) 0).1 = lstX h q c k) := hid rfl
      have HX2 : Hid ((numT h q 256 (lstC h q c k) 0).2.1 = lstC h q c (k + 1)) := hid rfl
      have HX3 : Hid ((numT h q 256 (lstC h q c k) 0).2.2 = lstF h q c (k + 1)) := hid rfl
      rw [HX1.out, HX2.out, HX3.out] at HM
      have HLk := hid (HLs.out k)
      have HLa := hid (HLn.out k)
      have HLb := hid (HLn.out (k + 1))
      clear HX1 HX2 HX3
      go_wp2_with fail
      refine HM.out.mono ?_
      rintro e w4 ⟨rfl, hS4, hg4⟩
      have HO4 := hid (own_grown HO.out hg4 (by omega))
      have HB4 := hid (Blk.grownOut HBo.out hg4 (by omega))
      have HZ4 := hid (Blk.grownOut HZ.out hg4 (by omega))
      have HU4 := hid (Up.grownNew HU.out hg4 (by have := HOo.out; omega))
      have HS4 := hid hS4
      have l4 := hS4.lt
      clear hS4 hg4 HO HBo HZ HU HTr HS HM HR
      generalize lstX h q c k = X at *
      go_wp2_with (at_builtin; refine wp_app infoInt Tryd.underlying44 (by omega) rfl _ _ rfl (b + 1) rfl rfl (HO4.out.up ((Up.refl w4).alloc _)) (seq_new _ _ _) (by rw [HLa.out]; simp only [List.length_cons, List.length_nil]; omega) (by simp; omega) ?_; intro v5 w5 hO5 hg5)
      have hb5 := below_own (HO4.out.up ((Up.refl w4).alloc (.cells #[.int .i64 X] 3))) hg5 (by simp; omega)
      have HS5 := hid ((HS4.out.alloc _).below hb5 (by omega))
      have HB5 := hid ((HB4.out.alloc _).below hb5 (by omega))
      have HZ5 := hid ((HZ4.out.alloc _).below hb5 (by omega))
      have HU5 := hid ((HU4.out.alloc _).own (HO4.out.up ((Up.refl w4).alloc _)) hg5 (by have := HOo.out; omega))
      have HT5 := hid (HT.out.up HU5.out)
      have hbs5 := HS5.out.lt
      rw [HLk.out.symm] at hO5
      obtain ⟨p5, k5, rfl, _, _⟩ := hO5.shape
      rw [HLb.out] at hO5
      rw [HLb.out]
      have HO5 := hid hO5
      clear hO5 hg5 hb5 HO4 HS4 HB4 HZ4 HU4 l4
      go_wp2_with fail
      go_roundw
      case rel => exact ⟨k + 1, p5, k5, by omega, by go_num, rfl, HO5, hbs5, HS5, HB5, HZ5, HU5, HT5⟩
      case measure => simp [intOf]; omega
    · obtain rfl : k = N := by omega
      clear hlt hk HLs
      have HRs := hid (fun w' hb => result_any h (lstC h q c k) (lstF h q c k) b w' hb)
      go_wp2_with fail
      refine (HRs.out _ HS.out).mono ?_
      rintro e w4 ⟨rfl, hU4⟩
      have HB4 := hid (HBo.out.up hU4)
      have HZ4 := hid (HZ.out.up hU4)
      have HO4 := hid (HO.out.up hU4)
      have HU4 := hid (HU.out.trans hU4)
      clear hU4 HBo HZ HO HU HS HRs HTr
      obtain ⟨F, hF⟩ : ∃ F, lstF h q c k = F := ⟨_, rfl⟩
      rw [hF] at HF2 ⊢
      clear hF
      cases F with
      | true =>
        have HVr := hid (lis_bad (h := h) (c := c) (q := q) (n := k) (E := 5) HF2.out (by decide))
        rw [show (bif true then drw zeroH 0 else drw h (lstC h q c k)) = .agg (drwA zeroH 0) from rfl, show (bif true then (5 : Int) else 0) = 5 from rfl]
        go_wp2_with (first
          | (refine wpList_store_rowTo rfl 25 _ _ rfl rfl o (drwA zeroH 0) rfl rfl 25 (drwA h c) HB4.out (sizeDrw _ _) (by rw [drwA_size, drwA_size]) (drwA_one _ _) ?_)
          | (refine wpList_store_rowTo rfl 25 _ _ rfl rfl o1 (drwA zeroH 0) ?_ ?_ 25 (drwA zeroH 0) ?_ ?_ ?_ ?_ ?_))
        · rfl
        · exact (congrArg Value.agg zero33)
        · exact (HZ4.out.rowApart (show o1 ≠ o by omega) (drwA zeroH 0))
        · exact sizeDrw _ _
        · rfl
        · exact drwA_one _ _
        refine bodyPost_ret (v := .tuple #[.agg (drwA zeroH 0), .slice none 0 0, .int .i64 5]) (results_row_tmp2 Tryd.results23 _ _ o1 25 _ (0, 0) _ (by rfl) ((HZ4.out.rowApart (show o1 ≠ o by omega) (drwA zeroH 0)).row _) Tryd.underlying25 rfl (sizeDrw _ _)) rfl ⟨.slice none 0 0, by rw [HVr.out.1, HVr.out.2.1]; rfl, by rw [HVr.out.2.2]; exact seq_none, (HU4.out.setRow (by have := HOo.out; omega) _).setRow (by have := HOo.out; omega) _⟩
      | false =>
        have HVr : Hid (lisE h c q k = 0 ∧ lisD h c q k = drw h (lstC h q c k) ∧ lisL h c q k = lstL h q c k) := hid (by
          have h0 : lisE h c q k = 0 := HF2.out
          exact ⟨h0, by rw [HDv.out, if_pos h0], by rw [HLv.out, if_pos h0]⟩)
        obtain ⟨d, hd⟩ : ∃ d, lstC h q c k = d := ⟨_, rfl⟩
        rw [hd] at HVr ⊢
        clear hd
        rw [show (bif false then drw zeroH 0 else drw h d) = .agg (drwA h d) from rfl, show (bif false then (5 : Int) else 0) = 0 from rfl]
        have HBd := hid (HB4.out.row (drwA h d))
        have HZd := hid (HZ4.out.rowApart (show o1 ≠ o by omega) (drwA h d))
        go_wp2_with (first
          | (refine wpList_store_rowTo rfl 25 _ _ rfl rfl o (drwA h d) rfl rfl 25 (drwA h c) HB4.out (sizeDrw _ _) (by rw [drwA_size, drwA_size]) (drwA_one _ _) ?_)
          | (refine wpList_load_row rfl 25 _ rfl o rfl 25 (drwA h d) (0, 0) _ HBd.out Tryd.underlying25 rfl (sizeDrw _ _) ?_)
          | (refine wpList_store_rowTo rfl 25 _ _ rfl rfl o1 (drwA h d) rfl rfl 25 (drwA zeroH 0) HZd.out (sizeDrw _ _) (by rw [drwA_size, drwA_size]) (drwA_one _ _) ?_))
        refine bodyPost_ret (v := .tuple #[.agg (drwA h d), .slice p k cp, .int .i64 0]) (results_row_tmp2 Tryd.results23 _ _ o1 25 _ (0, 0) _ (by rfl) (HZd.out.row _) Tryd.underlying25 rfl (sizeDrw _ _)) rfl ⟨.slice p k cp, by rw [HVr.out.2.1, HVr.out.1]; rfl, by rw [HVr.out.2.2]; exact (own_grown (own_grown HO4.out (grown_own w4 o (drwA h d)) (by omega)) (grown_own _ o1 (drwA h d)) (by omega)).seq, (HU4.out.setRow (by have := HOo.out; omega) _).setRow (by have := HOo.out; omega) _⟩
end Go.Proofs.YtdlcmpbpdbpanaaDoor
namespace Go.Proofs.YtdlcmpbpdbpanaaDoor
open Go.RowKit Go.Sp
set_option maxHeartbeats 4000000
set_option maxRecDepth 20000

theorem equalB_same (v1 v2 : Value) (xs : List Int) (w : World) (h1 : SeqAt .u8 w v1 xs) (h2 : SeqAt .u8 w v2 xs) (hl : xs.length ≤ 1000000) :
    Calls Tryd.prog 26 #[v1, v2] w fun e w' => e = .returned (.bool true) ∧ Up w w' := by
  have H1 := hid h1
  have H2 := hid h2
  obtain ⟨a1, c1, rfl, _, _⟩ := h1.shape
  obtain ⟨a2, c2, rfl, _, _⟩ := h2.shape
  obtain ⟨n, hn⟩ : ∃ n, xs.length = n := ⟨_, rfl⟩
  have HN := hid hn
  rw [hn] at H1 H2 hl
  rw [hn]
  clear h1 h2 hn
  go_enter Tryd.func26, Tryd.ntmps26
  have HU0 := hid (Up.refl w)
  go_wp2_with fail
  go_loopw [13] (fun vi wr => ∃ i : Nat, i ≤ n ∧ vi = .int .i64 i ∧ Hid (Up w wr)) (fun vi _ => n - (intOf vi).toNat)
  case atStart => exact ⟨0, by omega, rfl, HU0⟩
  case round =>
    clear HU0
    obtain ⟨i, hi, rfl, HU⟩ := hrel
    by_cases hlt : i < n
    · obtain ⟨b1, f1, k1, e1, q1⟩ := (H1.out.up HU.out).cell (i := i) (by rw [HN.out]; exact hlt)
      obtain ⟨rfl, -, rfl⟩ := Value.slice.inj e1
      obtain ⟨b2, f2, k2, e2, q2⟩ := (H2.out.up HU.out).cell (i := i) (by rw [HN.out]; exact hlt)
      obtain ⟨rfl, -, rfl⟩ := Value.slice.inj e2
      clear e1 e2
      generalize xs.getD i 0 = x at *
      have fq1 := cellF q1
      have fq2 := cellF q2
      clear q1 q2
      go_wp2_with fail
      refine wp_region_up (by kernel_rfl) (by kernel_rfl) ?_
      repeat (go_big_quiet_step (fail))
      refine wpQuiet_nil ?_
      rintro w3 ⟨⟨_, hU3⟩, rfl⟩
      try dsimp only
      have HU3 := hid (HU.out.trans hU3)
      clear hU3 fq1 fq2 HU
      go_wp2_with fail
      go_roundw
      case rel => exact ⟨i + 1, by omega, by go_num, HU3⟩
      case measure => simp [intOf]; omega
    · obtain rfl : i = n := by omega
      go_wp2
      go_ret
      exact ⟨rfl, HU.out⟩
theorem seq_sub {k : IntKind} {w : World} {b f n cap lo hi : Nat} {xs : List Int} (h : SeqAt k w (.slice (some ⟨b, f, none⟩) n cap) xs) (h1 : lo ≤ hi) (h2 : hi ≤ n) : SeqAt k w (.slice (some ⟨b, f + lo, none⟩) (hi - lo) (cap - lo)) ((xs.drop lo).take (hi - lo)) := by
  obtain ⟨a, c, e, hc1, hc2, _, hc⟩ := h
  obtain ⟨rfl, rfl, rfl⟩ := Value.slice.inj e
  have hlen : ((xs.drop lo).take (hi - lo)).length = hi - lo := by rw [List.length_take, List.length_drop]; omega
  refine ⟨some ⟨b, f + lo, none⟩, cap - lo, by rw [hlen], by omega, by omega, (fun h => by cases h), fun hne => ⟨b, f + lo, rfl, fun i hi' => ?_⟩⟩
  rw [hlen] at hi'
  have hx : xs ≠ [] := fun h => by rw [h] at h2; simp at h2; omega
  obtain ⟨b', f', e2, hcell⟩ := hc hx
  obtain ⟨rfl, rfl, -⟩ := Addr.mk.inj (Option.some.inj e2)
  have := hcell (lo + i) (by omega)
  rw [Nat.add_assoc, this]
  simp [List.getElem?_drop, hi']
/-- Next on the way of a list. -/
theorem nxt_list {h : Nat → Int} {c q : Int} {k : Nat} (c0 : 0 ≤ c) (c1 : c ≤ 1099511627776) (q0 : 1 ≤ q) (q1 : q ≤ 2305843009213693951) (hf : lstF h q c (k + 1) = false) :
    nxtV h (lstC h q c k) q = .tuple #[drw h (lstC h q c (k + 1)), .int .i64 (lstX h q c k), .int .i64 0] ∧ 0 ≤ lstX h q c k ∧ lstX h q c k < q ∧ lstC h q c k < lstC h q c (k + 1) := by
  have r := lstC_range (h := h) (q := q) c0 c1 k
  have hf2 : (numT h q 256 (lstC h q c k) 0).2.2 = false := hf
  have hx := numT_in (h := h) q0 256 _ _ hf2
  refine ⟨?_, hx.1, hx.2, numT_more (h := h) (q := q) 255 _ _ r.1 r.2 hf2⟩
  rw [nxtV, if_pos (chk_iff.2 ⟨r, q0, q1⟩), hf2]
  rfl
theorem catL_cut (h : Nat → Int) (c : Int) (i : Nat) : ∀ K, i < K → ((catL h c K).drop (32 * i)).take 32 = hList (shaB (posL h (c + i)))
  | 0, hi => absurd hi (by omega)
  | K + 1, hi => by
    rw [catL, List.drop_append_of_le_length (by rw [catL_length]; omega)]
    by_cases hk : i = K
    · subst hk
      rw [List.drop_of_length_le (by rw [catL_length]; omega), List.nil_append, List.take_of_length_le (by rw [hList_length]; omega)]
    · rw [List.take_append_of_le_length (by rw [List.length_drop, catL_length]; omega)]
      exact catL_cut h c i K (by omega)
/-- The bytes of a block among those that are asked for. -/
theorem byt_cut {h : Nat → Int} {c : Int} {i K n : Nat} (hi : i < K) (hn : 32 * i ≤ n) : (((catL h c K).take n).drop (32 * i)).take (min (32 * i + 32) n - 32 * i) = (hList (shaB (posL h (c + i)))).take (min (32 * i + 32) n - 32 * i) := by
  rw [← catL_cut h c i K hi, List.drop_take, List.take_take, List.take_take]
  congr 1
  omega
end Go.Proofs.YtdlcmpbpdbpanaaDoor
namespace Go.Proofs.YtdlcmpbpdbpanaaDoor
open Go.RowKit Go.Sp
set_option maxHeartbeats 4000000
set_option maxRecDepth 20000

def BytOut2 (h : Nat → Int) (c n : Int) (w : World) (e : Ending) (w' : World) : Prop :=
  ∃ v, e = .returned (.tuple #[bytD h c n, v, .int .i64 (bytE c n)]) ∧ (SeqAt .u8 w' v (bytL h c n) ∧ ∀ (g : Nat) (cs : Array Value), g < w.heap.size → SeqAt .u8 (w'.setRow g cs) v (bytL h c n)) ∧ Up w w'

theorem Bytes2_any (h : Nat → Int) (c n : Int) (w : World) (hT : TabS w) (hB : Byt h) :
    Calls Tryd.prog 16 #[drw h c, .int .i64 n] w (BytOut2 h c n w) := by
  have HT := hid hT
  have HB := hid hB
  obtain ⟨E, hE⟩ : ∃ E, chkE c n 0 16384 = E := ⟨_, rfl⟩
  have HE := hid hE
  clear hT hB
  have HC := hid (fun w' => check_draw_any h c n 0 16384 w')
  rw [hE] at HC
  clear hE
  unfold drw at HC ⊢
  go_enter Tryd.func16, Tryd.ntmps16
  have hB0 := Blk.new (w := w) (t := 25) (cs := drwA h c) rfl rfl
  have hB1 := Blk.new (w := w.alloc (.cells (drwA h c) 25)) (t := 25) (g := w.heap.size + 1) (by simp) zero33
  go_wp2_with (refine wpList_load_row rfl 25 _ rfl w.heap.size rfl 25 (drwA h c) (0, 0) _ (hB0.alloc _) Tryd.underlying25 rfl (sizeDrw _ _) ?_)
  refine (HC.out _).mono ?_
  rintro e w1 ⟨rfl, hU1⟩
  have HB0 := hid ((hB0.alloc _).up hU1)
  have HB1 := hid (hB1.up hU1)
  have HU1 := hid ((((Up.refl w).alloc _).alloc _).trans hU1)
  clear hU1 hB0 hB1 HC
  obtain ⟨o, ho⟩ : ∃ o, w.heap.size = o := ⟨_, rfl⟩
  have HOo := hid ho
  clear ho
  by_cases h0 : E = 0
  case neg =>
    have d1 : (E != 0) = true := by simpa using h0
    have HVr : Hid (bytD h c n = drw zeroH 0 ∧ bytE c n = E ∧ bytL h c n = []) := hid (by
      have : bytE c n = E := by rw [bytE, HE.out, if_neg h0]
      exact ⟨by rw [bytD, this, if_neg h0], this, by rw [bytL, this, if_neg h0]⟩)
    clear h0
    rw [HOo.out] at HB1
    rw [HOo.out]
    go_wp2_with (refine wpList_store_rowTo rfl 25 _ _ rfl rfl (o + 1) (drwA zeroH 0) ?_ ?_ 25 (drwA zeroH 0) ?_ ?_ ?_ ?_ ?_)
    · rfl
    · exact (congrArg Value.agg zero33)
    · exact HB1.out
    · exact sizeDrw _ _
    · rfl
    · exact drwA_one _ _
    refine bodyPost_ret (v := .tuple #[.agg (drwA zeroH 0), .slice none 0 0, .int .i64 E]) (results_row_tmp2 Tryd.results16 _ _ (o + 1) 25 _ (0, 0) _ (by rfl) (HB1.out.row _) Tryd.underlying25 rfl (sizeDrw _ _)) rfl ⟨.slice none 0 0, by rw [HVr.out.1, HVr.out.2.1]; rfl, by rw [HVr.out.2.2]; exact ⟨seq_none, fun _ _ _ => seq_none⟩, HU1.out.setRow (by have := HOo.out; omega) _⟩
  have hk := chk_iff.1 (HE.out.trans h0)
  have HK := hid hk
  have HEr : Hid (bytE c n = if c + needB n ≤ 1099511627776 then 0 else 5) := hid (by rw [bytE, if_pos (HE.out.trans h0)])
  subst h0
  clear hk HE
  go_wp2_with (first
    | (refine wpList_load_row rfl 25 _ rfl w.heap.size rfl 25 (drwA h c) (0, 0) _ HB0.out Tryd.underlying25 rfl (sizeDrw _ _) ?_)
    | (refine wpList_buildTo rfl 110 _ rfl _ rfl (srcA h c false) (by kernel_rfl) ?_))
  have ho := HOo.out
  have l1 := HB1.out.lt
  have HS2 : Hid (Blk (w1.alloc (.cells (srcA h c false) 110)) w1.heap.size 110 (srcA h c false)) := hid (Blk.new rfl rfl)
  have HO2 := hid (HB0.out.alloc (.cells (srcA h c false) 110))
  have HZ2 := hid (HB1.out.alloc (.cells (srcA h c false) 110))
  have HU2 := hid (HU1.out.alloc (.cells (srcA h c false) 110))
  have HT2 := hid (HT.out.up HU2.out)
  have hsb : w1.heap.size < (w1.alloc (.cells (srcA h c false) 110)).heap.size := by simp
  obtain ⟨b, hb⟩ : ∃ b, w1.heap.size = b := ⟨_, rfl⟩
  obtain ⟨w2, hw2⟩ : ∃ w2, w1.alloc (.cells (srcA h c false) 110) = w2 := ⟨_, rfl⟩
  rw [hb, hw2] at HS2 hsb
  rw [ho, hw2] at HO2 HZ2
  rw [hw2] at HU2 HT2
  have hob : o + 1 < b := by rw [← ho, ← hb]; exact l1
  have HC2 : Hid (c = c + ((0 : Nat) : Int) ∧ 32 * ((0 : Nat) : Int) - 32 < n) := hid ⟨by simp, by have := HK.out.2.1; simp; omega⟩
  rw [ho, hb, hw2]
  obtain ⟨o1, ho1⟩ : ∃ o1, o + 1 = o1 := ⟨_, rfl⟩
  have HO1 := hid ho1
  rw [ho1] at HZ2 hob
  rw [ho1]
  have hoo : o < o1 := by omega
  clear ho ho1 hb hw2 l1 HB0 HB1 HU1
  have hn1 : n ≤ 16384 := HK.out.2.2
  go_loopw [9] (fun vo wr => ∃ (k : Nat) (d : Int) (g : Bool) (p : Option Addr) (m cp : Nat) (L : List Int), vo = .slice p m cp ∧ Hid (m = 32 * k ∧ L.length = m ∧ 32 * (k : Int) - 32 < n) ∧ m ≤ 16416 ∧ Hid (OwnS 5 .u8 wr (b + 1) (.slice p m cp) L) ∧ Hid (0 ≤ d ∧ d ≤ 1099511627776) ∧ Hid (g = false → d = c + k ∧ L = catL h c k) ∧ Hid (g = true → d = 1099511627776 ∧ c + needB n > 1099511627776) ∧ b < wr.heap.size ∧ Hid (Blk wr b 110 (srcA h d g)) ∧ Hid (Blk wr o 25 (drwA h c)) ∧ Hid (Blk wr o1 25 (drwA zeroH 0)) ∧ Hid (Up w wr) ∧ Hid (TabS wr)) (fun vo _ => 16448 - lenOf vo)
  case atStart => exact ⟨0, c, false, none, 0, 0, [], rfl, hid ⟨rfl, rfl, HC2.out.2⟩, by omega, hid own_none, hid HK.out.1, hid (fun _ => ⟨HC2.out.1, rfl⟩), hid (fun h => by cases h), hsb, HS2, HO2, HZ2, HU2, HT2⟩
  case round =>
    clear HS2 HO2 HZ2 HU2 HT2 HC2 hsb
    obtain ⟨k, d, g, p, m, cp, L, rfl, HM, hm, HO, HD, HGf, HGt, hbs, HS, HBo, HZ, HU, HTr⟩ := hrel
    obtain ⟨hm1, hm2, hm3⟩ := HM.out
    by_cases hlt : (m : Int) < n
    · have dl : decide ((m : Int) < n) = true := by simpa using hlt
      cases g with
      | true =>
        have f0 := HS.out.val (srcA_full h d true)
        have hgt := HGt.out rfl
        have HEr5 : Hid (bytE c n = 5) := hid (by rw [HEr.out, if_neg (by omega)])
        have HVr : Hid (bytD h c n = drw zeroH 0 ∧ bytL h c n = []) := hid ⟨by rw [bytD, HEr5.out, if_neg (by decide)], by rw [bytL, HEr5.out, if_neg (by decide)]⟩
        have HRs := hid (fun w' hb => result_any h d true b w' hb)
        clear hgt hm1 hm2 hm3 HM HGt HGf
        go_wp2_with fail
        refine (HRs.out _ HS.out).mono ?_
        rintro e w3 ⟨rfl, hU3⟩
        have HBo3 := hid (HBo.out.up hU3)
        have HZ3 := hid (HZ.out.up hU3)
        have HU3 := hid (HU.out.trans hU3)
        clear hU3 HBo HZ HU HS HRs
        have l3 := HZ3.out.lt
        rw [show (bif true then drw zeroH 0 else drw h d) = .agg (drwA zeroH 0) from rfl, show (bif true then (5 : Int) else 0) = 5 from rfl]
        go_wp2_with (first
          | (refine wpList_store_rowTo rfl 25 _ _ rfl rfl o (drwA zeroH 0) rfl rfl 25 (drwA h c) HBo3.out (sizeDrw _ _) (by rw [drwA_size, drwA_size]) (drwA_one _ _) ?_)
          | (refine wpList_store_rowTo rfl 25 _ _ rfl rfl o1 (drwA zeroH 0) ?_ ?_ 25 (drwA zeroH 0) ?_ ?_ ?_ ?_ ?_))
        · rfl
        · exact (congrArg Value.agg zero33)
        · exact HZ3.out.rowApart (by omega) _
        · exact sizeDrw _ _
        · rfl
        · exact drwA_one _ _
        refine bodyPost_ret (v := .tuple #[.agg (drwA zeroH 0), .slice none 0 0, .int .i64 5]) (results_row_tmp2 Tryd.results16 _ _ o1 25 _ (0, 0) _ (by rfl) ((HZ3.out.rowApart (by omega) _).row _) Tryd.underlying25 rfl (sizeDrw _ _)) rfl ⟨.slice none 0 0, by rw [HVr.out.1, HEr5.out]; rfl, by rw [HVr.out.2]; exact ⟨seq_none, fun _ _ _ => seq_none⟩, (HU3.out.setRow (by have := HOo.out; omega) _).setRow (by have := HOo.out; have := HO1.out; omega) _⟩
      | false =>
        have f0 := HS.out.val (srcA_full h d false)
        have hd := HGf.out rfl
        have HR : Hid (∀ g', g' = blkF d false → ((g' = false → blkC d = c + ((k + 1 : Nat) : Int) ∧ L ++ hList (blkB h d) = catL h c (k + 1)) ∧ (g' = true → blkC d = 1099511627776 ∧ c + needB n > 1099511627776))) := hid (by
          rintro _ rfl
          by_cases hx : d = 1099511627776
          · rw [blkF, if_pos hx, blkC, if_pos hx]
            refine ⟨fun h => by (cases h), fun _ => ⟨hx, ?_⟩⟩
            unfold needB
            omega
          · rw [blkF, if_neg hx, blkC, if_neg hx, blkB, if_neg hx]
            refine ⟨fun _ => ⟨by have := hd.1; simp; omega, ?_⟩, fun h => by (cases h)⟩
            rw [hd.2, catL, hd.1])
        have HCr : Hid (0 ≤ blkC d ∧ blkC d ≤ 1099511627776) := hid (by
          have := HD.out
          unfold blkC
          split <;> omega)
        clear hd HGf HGt
        have hm16 : m ≤ 16384 := by omega
        have HLm : Hid (L.length = m) := hid hm2
        have HM2 : Hid (m + 32 = 32 * (k + 1) ∧ 32 * ((k + 1 : Nat) : Int) - 32 < n ∧ m + 32 ≤ 16416) := hid ⟨by omega, by omega, by omega⟩
        clear hm1 hm2 hm3 HM hm
        go_wp2_with fail
        refine (block_any h d false b _ HTr.out HB.out HS.out HD.out.1 HD.out.2).mono ?_
        rintro e w3 ⟨rfl, hS3, hg3⟩
        have HO3 := hid (own_grown HO.out hg3 (by omega))
        have HBo3 := hid (Blk.grownOut HBo.out hg3 (by omega))
        have HZ3 := hid (Blk.grownOut HZ.out hg3 (by omega))
        have HU3 := hid (Up.grownNew HU.out hg3 (by have := HOo.out; omega))
        have HT3 := hid (HTr.out.grown HS.out hg3)
        have HS3 := hid hS3
        have l3 := hS3.lt
        clear hS3 hg3 HO HBo HZ HU HTr HS f0
        generalize blkC d = d2 at *
        generalize blkF d false = g2 at *
        have HR2 := hid (HR.out _ rfl)
        clear HR
        obtain ⟨Y, hY⟩ : ∃ Y, blkB h d = Y := ⟨_, rfl⟩
        rw [hY] at HR2
        rw [hY]
        clear hY
        unfold hashV
        go_wp2_with (first
          | (refine wpList_store_rowTo rfl 23 _ _ rfl rfl _ _ rfl rfl 23 _ (heap_alloc_new _ _) (by rw [arrK_size]; kernel_rfl) (by rw [arrK_size]; rfl) arrK_one ?_; rw [World.setRow_alloc_new])
          | (at_builtin; refine wp_app infoU8 Tryd.underlying31 (by omega) rfl _ _ rfl (b + 1) rfl rfl (HO3.out.up ((Up.refl w3).alloc _)) (seedAt (h := Y) (Blk.new (cs := arrK .u8 Y 32) rfl rfl) (fun i hi => arrK_get hi)) (by have := HLm.out; simp [hList_length]; omega) (by simp; omega) ?_; intro v4 w4 hO4 hg4))
        have hb4 := below_own (HO3.out.up ((Up.refl w3).alloc (.cells (arrK .u8 Y 32) 23))) hg4 (by simp; omega)
        have HS4 := hid ((HS3.out.alloc _).below hb4 (by omega))
        have HBo4 := hid ((HBo3.out.alloc _).below hb4 (by omega))
        have HZ4 := hid ((HZ3.out.alloc _).below hb4 (by omega))
        have HU4 := hid ((HU3.out.alloc _).own (HO3.out.up ((Up.refl w3).alloc _)) hg4 (by have := HOo.out; omega))
        have HT4 := hid (HT.out.up HU4.out)
        have hbs4 := HS4.out.lt
        have HLm2 : Hid ((L ++ hList Y).length = m + 32) := hid (by rw [List.length_append, HLm.out, hList_length])
        obtain ⟨p4, k4, rfl, _, _⟩ := hO4.shape
        rw [HLm2.out] at hO4
        rw [HLm2.out]
        have HO4 := hid hO4
        clear hO4 hg4 hb4 HO3 HS3 HBo3 HZ3 HU3 HT3 l3
        go_wp2_with fail
        go_roundw
        case rel => exact ⟨k + 1, d2, g2, p4, m + 32, k4, L ++ hList Y, rfl, hid ⟨HM2.out.1, HLm2.out, HM2.out.2.1⟩, HM2.out.2.2, HO4, HCr, hid HR2.out.1, hid HR2.out.2, hbs4, HS4, HBo4, HZ4, HU4, HT4⟩
        case measure => simp; omega
    · have dl : decide ((m : Int) < n) = false := by simpa using hlt
      cases g with
      | true =>
        have hgt := HGt.out rfl
        have HEr5 : Hid (bytE c n = 5) := hid (by rw [HEr.out, if_neg (by omega)])
        have HVr : Hid (bytD h c n = drw zeroH 0 ∧ bytL h c n = []) := hid ⟨by rw [bytD, HEr5.out, if_neg (by decide)], by rw [bytL, HEr5.out, if_neg (by decide)]⟩
        have HRs := hid (fun w' hb => result_any h d true b w' hb)
        clear hgt hm1 hm2 hm3 HM HGt HGf
        go_wp2_with fail
        refine (HRs.out _ HS.out).mono ?_
        rintro e w3 ⟨rfl, hU3⟩
        have HBo3 := hid (HBo.out.up hU3)
        have HZ3 := hid (HZ.out.up hU3)
        have HU3 := hid (HU.out.trans hU3)
        clear hU3 HBo HZ HU HS HRs
        have l3 := HZ3.out.lt
        rw [show (bif true then drw zeroH 0 else drw h d) = .agg (drwA zeroH 0) from rfl, show (bif true then (5 : Int) else 0) = 5 from rfl]
        go_wp2_with (first
          | (refine wpList_store_rowTo rfl 25 _ _ rfl rfl o (drwA zeroH 0) rfl rfl 25 (drwA h c) HBo3.out (sizeDrw _ _) (by rw [drwA_size, drwA_size]) (drwA_one _ _) ?_)
          | (refine wpList_store_rowTo rfl 25 _ _ rfl rfl o1 (drwA zeroH 0) ?_ ?_ 25 (drwA zeroH 0) ?_ ?_ ?_ ?_ ?_))
        · rfl
        · exact (congrArg Value.agg zero33)
        · exact HZ3.out.rowApart (by omega) _
        · exact sizeDrw _ _
        · rfl
        · exact drwA_one _ _
        refine bodyPost_ret (v := .tuple #[.agg (drwA zeroH 0), .slice none 0 0, .int .i64 5]) (results_row_tmp2 Tryd.results16 _ _ o1 25 _ (0, 0) _ (by rfl) ((HZ3.out.rowApart (by omega) _).row _) Tryd.underlying25 rfl (sizeDrw _ _)) rfl ⟨.slice none 0 0, by rw [HVr.out.1, HEr5.out]; rfl, by rw [HVr.out.2]; exact ⟨seq_none, fun _ _ _ => seq_none⟩, (HU3.out.setRow (by have := HOo.out; omega) _).setRow (by have := HOo.out; have := HO1.out; omega) _⟩
      | false =>
        have hd := HGf.out rfl
        have hk : needB n = (k : Int) := by unfold needB; omega
        have HEr0 : Hid (bytE c n = 0) := hid (by rw [HEr.out, if_pos (by have := HD.out.2; omega)])
        have HVr : Hid (bytD h c n = drw h d ∧ bytL h c n = L.take n.toNat) := hid ⟨by rw [bytD, HEr0.out, if_pos rfl, hk, hd.1], by rw [bytL, HEr0.out, if_pos rfl, hk, hd.2, Int.toNat_natCast]⟩
        have HRs := hid (fun w' hb => result_any h d false b w' hb)
        have hn0 : 0 ≤ n := HK.out.2.1
        have hcap : m ≤ cp := by
          obtain ⟨_, _, hv, hl, _⟩ := HO.out.seq.shape
          simp only [Value.slice.injEq] at hv
          omega
        clear hd hk hm1 hm2 hm3 HM HGt HGf
        go_wp2_with fail
        refine (HRs.out _ HS.out).mono ?_
        rintro e w3 ⟨rfl, hU3⟩
        have HBo3 := hid (HBo.out.up hU3)
        have HZ3 := hid (HZ.out.up hU3)
        have HO3 := hid (HO.out.up hU3)
        have HU3 := hid (HU.out.trans hU3)
        clear hU3 HBo HZ HO HU HS HRs
        have l3 := HZ3.out.lt
        rw [show (bif false then drw zeroH 0 else drw h d) = .agg (drwA h d) from rfl, show (bif false then (5 : Int) else 0) = 0 from rfl]
        go_wp2_with (refine wpList_store_rowTo rfl 25 _ _ rfl rfl o (drwA h d) rfl rfl 25 (drwA h c) HBo3.out (sizeDrw _ _) (by rw [drwA_size, drwA_size]) (drwA_one _ _) ?_)
        have HB4 : Hid (Blk (w3.setRow o (drwA h d)) o 25 (drwA h d)) := hid (HBo3.out.row _)
        have HZ4 := hid (HZ3.out.rowApart (k := o) (by omega) (drwA h d))
        have HO4 := hid (own_grown HO3.out (grown_own w3 o (drwA h d)) (by omega))
        have HU4 := hid (HU3.out.setRow (g := o) (by have := HOo.out; omega) (drwA h d))
        generalize w3.setRow o (drwA h d) = w4 at *
        clear HBo3 HZ3 HO3 HU3 l3
        have b0 : (0 : Int) ≤ n := hn0
        have b1 : n ≤ (cp : Int) := by omega
        refine region_E (fun w' => Blk w' o 25 (drwA h d)) 7 (by kernel_rfl) (HB4.out.up (Up.refl _).drew) fun hS => ?_
        refine anyE_take (i := 1) (v := ?_) 48 rfl rfl (by kernel_rfl) (by kernel_rfl) (by decide) (fun _ _ _ h => h) (by kernel_rfl) (by kernel_rfl) (.inl ⟨by rfl, fun u hu => ?_⟩) hS ?_
        rotate_left
        · (go_simp; first | done | with_reducible rfl)
        simp only [Act.put, List.setIfInBounds_toArray, List.set_cons_zero, List.set_cons_succ]
        refine anyE_take (i := 2) (v := ?_) 49 rfl rfl (by kernel_rfl) (by kernel_rfl) (by decide) (fun _ _ _ h => h) (by kernel_rfl) (by kernel_rfl) (.inl ⟨by rfl, fun u hu => ?_⟩) hS ?_
        rotate_left
        · (go_simp; first | done | with_reducible rfl)
        simp only [Act.put, List.setIfInBounds_toArray, List.set_cons_zero, List.set_cons_succ]
        refine anyE_take (i := 3) (v := ?_) 50 rfl rfl (by kernel_rfl) (by kernel_rfl) (by decide) (fun _ _ _ h => h) (by kernel_rfl) (by kernel_rfl) (.inl ⟨by rfl, fun u hu => ?_⟩) hS ?_
        rotate_left
        · (go_simp; first | done | with_reducible rfl)
        simp only [Act.put, List.setIfInBounds_toArray, List.set_cons_zero, List.set_cons_succ]
        refine anyE_take (i := 4) (v := ?_) 51 rfl rfl (by kernel_rfl) (by kernel_rfl) (by decide) (fun _ _ _ h => h) (by kernel_rfl) (by kernel_rfl) (.inl ⟨by rfl, fun u hu => ?_⟩) hS ?_
        rotate_left
        · (go_simp; first | done | with_reducible rfl)
        simp only [Act.put, List.setIfInBounds_toArray, List.set_cons_zero, List.set_cons_succ]
        refine anyE_take (i := 0) (v := .agg (drwA h d).toList.toArray) 47 rfl rfl (by kernel_rfl) (by kernel_rfl) (by decide) (fun _ _ _ h => h) (by kernel_rfl) (by kernel_rfl) (yieldsIf_load_mid (by rfl) 25 _ rfl o 0 rfl (drwA h d).toList _ (fun u hu => blk_range hu) Tryd.underlying25 rfl (by rw [Array.length_toList]; exact sizeDrw _ _)) hS ?_
        rw [Array.toArray_toList]
        simp only [Act.put, List.setIfInBounds_toArray, List.set_cons_zero, List.set_cons_succ]
        refine anyE_one (i := 5) rfl (by kernel_rfl) rfl (fun K hK => ?_)
        refine op_store_row 25 _ _ rfl rfl o1 (drwA h d) rfl rfl 25 (drwA zeroH 0) (HZ4.out.up (Up.refl _).drew) (sizeDrw _ _) (by rw [drwA_size, drwA_size]) (drwA_one _ _) ?_
        have hS5 : Blk (w4.drew.setRow o1 (drwA h d)) o 25 (drwA h d) := Blk.rowApart hS (by omega) _
        refine hK.out _ _ (.inr hS5) ?_
        clear hK
        refine anyE_take (i := 6) (v := ?_) 5 rfl rfl (by kernel_rfl) (by kernel_rfl) (by decide) (fun _ _ _ h => h) (by kernel_rfl) (by kernel_rfl) (.inl ⟨by rfl, fun u hu => ?_⟩) hS5 ?_
        rotate_left
        · (go_simp; first | done | with_reducible rfl)
        simp only [Act.put, List.setIfInBounds_toArray, List.set_cons_zero, List.set_cons_succ]
        refine anyE_one (i := 7) rfl (by kernel_rfl) rfl (fun K hK => ?_)
        go_simp
        refine hK.out _ _ (.inl rfl) (anyE_done (by kernel_rfl) ?_ _)
        clear hK
        go_wp2
        refine bodyPost_ret (v := .tuple #[.agg (drwA h d), .slice p n.toNat n.toNat, .int .i64 0]) (results_row_tmp2 Tryd.results16 _ _ o1 25 _ (0, 0) _ (by rfl) ((HZ4.out.up (Up.refl _).drew).row _) Tryd.underlying25 rfl (sizeDrw _ _)) rfl ⟨.slice p n.toNat n.toNat, by rw [HVr.out.1, HEr0.out]; rfl, ?_, (HU4.out.drew).setRow (by have := HOo.out; have := HO1.out; omega) _⟩
        rw [HVr.out.2]
        have hO5 := own_grown (HO4.out.up (Up.refl _).drew) (grown_own w4.drew o1 (drwA h d)) (by omega)
        exact ⟨seq_cut hO5.seq (by omega), fun g cs hg => seq_cut (own_grown hO5 (grown_own _ g cs) (by have := HOo.out; omega)).seq (by omega)⟩
end Go.Proofs.YtdlcmpbpdbpanaaDoor
