/- A list is its numbers, one after the other, in their range, and bytes are those of the blocks, one after the other: specielaw09.DrawJoins returns true. For every input; the tables of package digest as the program's text lays them. DrawJoins: the walk. The examples of layer 9. -/
import Derived.Test.YtdlcmpbpdbpanaaDoorLBDrawJoins2
import Derived.Test.YtdlcmpbpdbpanaaDoorLBDrawJoins1
import Derived.Lib.SmallJoins
import Derived.Lay
namespace Go.Proofs.YtdlcmpbpdbpanaaDoor
open Go.RowKit Go.Sp
set_option maxHeartbeats 4000000
set_option maxRecDepth 20000

theorem nxt_one (h : Nat → Int) (c : Int) (h0 : 0 ≤ c) (h1 : c < 1099511627776) : nxtV h c 1 = .tuple #[drw h (c + 1), .int .i64 0, .int .i64 0] := by
  have hk : chkE c 1 1 2305843009213693951 = 0 := chk_iff.2 ⟨⟨h0, by omega⟩, by omega, by omega⟩
  have hn := numT_pow (h := h) (n := 0) (by omega) (c := c) (by omega)
  rw [nxtV, if_pos hk]
  rw [show ((2 : Int) ^ 0) = 1 from rfl] at hn
  rw [hn]
  simp
theorem byt_33 (h : Nat → Int) : bytE 0 33 = 0 ∧ bytD h 0 33 = drw h 2 ∧ (bytL h 0 33).length = 33 := by
  have hk : chkE 0 33 0 16384 = 0 := by decide +kernel
  have hn : needB 33 = 2 := by decide +kernel
  have he : bytE 0 33 = 0 := by rw [bytE, if_pos hk, hn]; decide
  refine ⟨he, by rw [bytD, if_pos he, hn]; rfl, ?_⟩
  rw [bytL, if_pos he, hn, List.length_take, catL_length]
  decide

theorem awake09 (w : World) (hS : TabS w) : Calls Tryd.prog 13 #[] w fun e w' => e = .returned (.bool true) ∧ Up w w' := by
  have M1 := hid (fun w' (v : Value) (hU : Up w w') (hv : SeqAt .u8 w' v [120]) => New_any v [120] w' (hS.up hU) hv (by simp))
  rw [show newV [120] = .tuple #[drw (tagB (txt drawTag) [120]) 0, .int .i64 0] by rw [newV, if_pos (by decide)]] at M1
  have hB : Byt (tagB (txt drawTag) [120]) := fun i => tagB_range _ _ i
  generalize tagB (txt drawTag) [120] = H at *
  have M2 := hid (fun w' (hU : Up w w') => Next_any H 0 1 w' (hS.up hU) hB)
  rw [nxt_one H 0 (by omega) (by omega), show (0 : Int) + 1 = 1 from rfl] at M2
  have M3 := hid (fun w' (hU : Up w w') => Bytes_any H 0 33 w' (hS.up hU) hB)
  obtain ⟨e1, e2, e3⟩ := byt_33 H
  unfold BytOut at M3
  rw [e1, e2] at M3
  have HL := hid e3
  unfold drw at M1 M2 M3
  have HC0 := hid (drwA_ctr H 0)
  have HC1 := hid (drwA_ctr H 1)
  have HC2 := hid (drwA_ctr H 2)
  clear hS hB e1 e2 e3
  have hcv := Lib.run_convert_bytes_const (P := Tryd.prog) w 31 5 #[.int .u8 120] 1 1 Tryd.underlying31 Tryd.underlying5
  go_enter Tryd.func13, Tryd.ntmps13
  go_wp2_with fail
  refine (M1.out _ _ ((Up.refl w).alloc _) (seq_block (heap_alloc_new w _) [120] 0 1 1 rfl (by decide) (by decide) (fun i hi => by
    obtain rfl : i = 0 := by omega
    rfl))).mono ?_
  rintro e w1 ⟨rfl, hU1⟩
  have HU1 := hid (((Up.refl w).alloc _).trans hU1)
  clear hU1
  clear hcv
  obtain ⟨b1, hb1⟩ : ∃ b, w1.heap.size = b := ⟨_, rfl⟩
  have HB1 := hid hb1
  clear hb1
  have HU1a := hid (HU1.out.alloc (.cells (drwA H 0) 25))
  go_wp2_with (first | (refine wpList_store_rowTo rfl 25 _ _ rfl rfl _ (drwA _ _) rfl rfl 25 _ (heap_alloc_new _ _) (sizeDrw _ _) (by rw [drwA_size]; rfl) (drwA_one _ _) ?_; rw [World.setRow_alloc_new]) | (refine wpList_load_row rfl 25 _ rfl w1.heap.size rfl 25 (drwA H 0) (0, 0) _ (Blk.new rfl rfl) Tryd.underlying25 rfl (sizeDrw _ _) ?_))
  refine (M2.out _ HU1a.out).mono ?_
  rintro e w2 ⟨rfl, hU2⟩
  rw [HB1.out]
  have HD2 := hid ((Blk.new (w := w1) (t := 25) (cs := drwA H 0) HB1.out rfl).up hU2)
  have HU2 := hid (HU1a.out.trans hU2)
  clear hU2 HU1a HU1
  obtain ⟨b2, hb2⟩ : ∃ b, w2.heap.size = b := ⟨_, rfl⟩
  have HB2 := hid hb2
  clear hb2
  have HD2a := hid (HD2.out.alloc (.cells (drwA H 1) 25))
  have HU2a := hid (HU2.out.alloc (.cells (drwA H 1) 25))
  go_wp2_with (first | (refine wpList_store_rowTo rfl 25 _ _ rfl rfl _ (drwA _ _) rfl rfl 25 _ (heap_alloc_new _ _) (sizeDrw _ _) (by rw [drwA_size]; rfl) (drwA_one _ _) ?_; rw [World.setRow_alloc_new]) | (refine wpList_load_row rfl 25 _ rfl b1 rfl 25 (drwA H 0) (0, 0) _ HD2a.out Tryd.underlying25 rfl (sizeDrw _ _) ?_))
  refine (M3.out _ HU2a.out).mono ?_
  rintro e w3 ⟨v3, rfl, hv3, hU3⟩
  rw [HB2.out]
  have HD3 := hid (HD2a.out.up hU3)
  have HE3 := hid ((Blk.new (w := w2) (t := 25) (cs := drwA H 1) HB2.out rfl).up hU3)
  have HU3 := hid (HU2a.out.trans hU3)
  obtain ⟨a3, c3, rfl, _, _⟩ := hv3.shape
  rw [HL.out]
  clear hU3 hv3 HD2 HD2a HU2 HU2a
  have k1 := (HD3.out.alloc (.cells (drwA H 2) 25)).val HC0.out
  have k2 := (HE3.out.alloc (.cells (drwA H 2) 25)).val HC1.out
  have k3 := (Blk.new (w := w3) (t := 25) (cs := drwA H 2) rfl rfl).val HC2.out
  have HU4 := hid (HU3.out.alloc (.cells (drwA H 2) 25))
  go_wp2_with (refine wpList_store_rowTo rfl 25 _ _ rfl rfl _ (drwA _ _) rfl rfl 25 _ (heap_alloc_new _ _) (sizeDrw _ _) (by rw [drwA_size]; rfl) (drwA_one _ _) ?_; rw [World.setRow_alloc_new])
  go_ret
  exact ⟨rfl, HU4.out⟩
end Go.Proofs.YtdlcmpbpdbpanaaDoor
namespace Go.Proofs.YtdlcmpbpdbpanaaDoor
open Go.RowKit Go.Sp
set_option maxHeartbeats 4000000
set_option maxRecDepth 20000

theorem DrawJoins_walk (h : Nat → Int) (c q x y : Int) (w : World) (hS : TabS w) (hB : Byt h) (c0 : -9223372036854775808 ≤ c) (c1 : c ≤ 9223372036854775807) (x0 : 0 ≤ x) (x1 : x ≤ 65535) (y0 : 0 ≤ y) (y1 : y ≤ 65535) :
    Calls Tryd.prog 5 #[drw h c, .int .i64 q, .int .u16 x, .int .u16 y] w fun e w' => e = .returned (.bool true) ∧ Up w w' := by
  obtain ⟨n1, hn1, hn1l⟩ : ∃ n : Nat, x.tmod 61 = n ∧ n ≤ 60 := by
    rw [Int.tmod_eq_emod_of_nonneg x0]
    exact ⟨(x % 61).toNat, by omega, by omega⟩
  obtain ⟨n2, hn2, hn2l⟩ : ∃ n : Nat, y.tmod 301 = n ∧ n ≤ 300 := by
    rw [Int.tmod_eq_emod_of_nonneg y0]
    exact ⟨(y % 301).toNat, by omega, by omega⟩
  have fx : IntKind.i64.wrap x = x := by rw [IntKind.wrap_i64]; omega
  have fy : IntKind.i64.wrap y = y := by rw [IntKind.wrap_i64]; omega
  have M1 := hid (fun w' (hU : Up w w') => awake09 w' (hS.up hU))
  have M2 := hid (fun w' => draValid_any h c w')
  have M3 := hid (fun w' (hU : Up w w') => List_any h c q n1 w' (hS.up hU) hB)
  have M4 := hid (fun w' (hU : Up w w') => Bytes2_any h c n2 w' (hS.up hU) hB)
  have M5 := hid (fun w' (hU : Up w w') (c' : Int) => Next_any h c' q w' (hS.up hU) hB)
  have M6 := hid (fun w' (v : Value) (hv : SeqAt .u8 w' v (hList h)) => cloneB_any v (hList h) w' hv (fun e => by have := congrArg List.length e; rw [hList_length] at this; cases this) (by rw [hList_length]; omega))
  have M7 := hid (fun w' (hU : Up w w') (v : Value) (d : Int) (hv : SeqAt .u8 w' v (posL h d)) => Sum_any v (posL h d) w' (hS.up hU) hv (by rw [posL_length]; omega) (posL_byt hB d))
  have HQ := hid (fun w' => hash_self (h := h) hB w')
  have HQd := hid (fun w' (d : Int) (a : 0 ≤ d) (b : d ≤ 1099511627776) => draw_self (h := h) (c := d) hB (by omega) (by omega) w')
  have HC := hid (drwA_ctr h c)
  have HS := hid hS
  obtain ⟨X, E, hX, hX1, hX2, hE, hok⟩ : ∃ X E, lisD h c q n1 = .agg X ∧ X.size = 33 ∧ X.all (·.oneCell') = true ∧ lisE h c q n1 = E ∧ (E = 0 → X = drwA h (lstC h q c n1) ∧ lisL h c q n1 = lstL h q c n1 ∧ chkE c q 1 2305843009213693951 = 0 ∧ lstF h q c n1 = false) := by
    by_cases h0 : lisE h c q n1 = 0
    · refine ⟨drwA h (lstC h q c n1), 0, by rw [lisD, if_pos h0, Int.toNat_natCast]; rfl, drwA_size _ _, drwA_one _ _, h0, fun _ => ⟨rfl, by rw [lisL, if_pos h0, Int.toNat_natCast], ?_⟩⟩
      rw [lisE] at h0
      by_cases h1 : chkE c q 1 2305843009213693951 = 0
      · rw [if_pos h1] at h0
        refine ⟨h1, ?_⟩
        by_cases h2 : chkE c n1 0 1000 = 0
        · rw [if_pos h2, Int.toNat_natCast] at h0
          cases hf : lstF h q c n1 with
          | false => rfl
          | true => rw [hf] at h0; cases h0
        · rw [if_neg h2] at h0
          exact absurd h0 h2
      · rw [if_neg h1] at h0
        exact absurd h0 h1
    · exact ⟨drwA zeroH 0, _, by rw [lisD, if_neg h0]; rfl, drwA_size _ _, drwA_one _ _, rfl, fun h => absurd h h0⟩
  have hX3 : (Tryd.prog.info? 25).map (·.size) = some X.size := by rw [hX1]; kernel_rfl
  unfold LisOut at M3
  rw [hX, hE] at M3
  have HOk := hid hok
  obtain ⟨o, ho⟩ : ∃ o, w.heap.size = o := ⟨_, rfl⟩
  have HO := hid ho
  unfold drw at M2 M3 M5 ⊢
  clear hS hB ho hX hE hok
  go_enter Tryd.func5, Tryd.ntmps5
  go_wp2_with fail
  refine (M1.out _ ((Up.refl w).alloc _)).mono ?_
  rintro e w1 ⟨rfl, hU1⟩
  have HD1 := hid ((Blk.new (g := o) (t := 25) (cs := drwA h c) HO.out rfl).up hU1)
  have HU1 := hid (((Up.refl w).alloc _).trans hU1)
  clear hU1
  rw [HO.out]
  go_wp2_with (refine wpList_load_row rfl 25 _ rfl o rfl 25 (drwA h c) (0, 0) _ HD1.out Tryd.underlying25 rfl (sizeDrw _ _) ?_)
  refine (M3.out _ HU1.out).mono ?_
  rintro e w2 ⟨v2, rfl, hv2, hU2⟩
  obtain ⟨g11, hg⟩ : ∃ g, w2.heap.size = g := ⟨_, rfl⟩
  have HGg := hid hg
  have HD3 := hid ((HD1.out.up hU2).alloc (.cells X 25))
  have HU3 := hid ((HU1.out.trans hU2).alloc (.cells X 25))
  have HG3 := hid (Blk.new (w := w2) (g := g11) (t := 25) (cs := X) hg rfl)
  have HV3 := hid (hv2.up ((Up.refl w2).alloc (.cells X 25)))
  have hwg : w.heap.size ≤ g11 := by have := (HU1.out.trans hU2).size; omega
  obtain ⟨a2, c2, rfl, _, _⟩ := hv2.shape
  have hog : o < g11 := by have := (HD1.out.up hU2).lt; omega
  clear hg hU2 HU1 HD1 hv2
  by_cases h0 : E = 0
  case neg =>
    have d0 : (E == 0) = false := by simpa using h0
    clear h0 HOk
    go_wp2_with (first
      | (refine wpList_store_rowTo rfl 25 _ _ rfl rfl _ X rfl rfl 25 _ (heap_alloc_new _ _) hX3 (by rw [hX1]; rfl) hX2 ?_; rw [World.setRow_alloc_new, HGg.out]; generalize w2.alloc (.cells X 25) = w3 at *)
      | (refine wpList_load_row rfl 25 _ rfl o rfl 25 (drwA h c) (0, 0) _ HD3.out Tryd.underlying25 rfl (sizeDrw _ _) ?_))
    refine (M2.out _).mono ?_
    rintro e w20 ⟨rfl, hU20⟩
    have HU20 := hid (HU3.out.trans hU20)
    have HD20 := hid (HD3.out.up hU20)
    have HG20 := hid (HG3.out.up hU20)
    clear hU20 HU3 HD3 HG3
    have kc := HD20.out.val HC.out
    cases hV : dvB c
    case false =>
      clear hV
      go_wp2
      go_ret
      exact ⟨rfl, HU20.out⟩
    obtain ⟨v0, v1⟩ := dvB_iff.1 hV
    clear hV
    by_cases hc : c > 549755813888
    case pos =>
      have d : decide (c > 549755813888) = true := by simp; omega
      clear hc
      go_wp2
      go_ret
      exact ⟨rfl, HU20.out⟩
    have dc : decide (c > 549755813888) = false := by simp; omega
    obtain ⟨K, hK, hK1⟩ : ∃ K : Nat, needB n2 = K ∧ K ≤ 10 := ⟨(needB n2).toNat, by unfold needB; omega, by unfold needB; omega⟩
    have hKn : 32 * K < n2 + 32 ∧ n2 ≤ 32 * K := by unfold needB at hK; omega
    have hbE : bytE c n2 = 0 := by rw [bytE, if_pos (chk_iff.2 ⟨⟨v0, v1⟩, by omega, by omega⟩), hK, if_pos (by omega)]
    have hbD : bytD h c n2 = drw h (c + K) := by rw [bytD, if_pos hbE, hK]
    have HBl : Hid (bytL h c n2 = (catL h c K).take n2) := hid (by rw [bytL, if_pos hbE, hK, Int.toNat_natCast, Int.toNat_natCast])
    have HBn : Hid ((bytL h c n2).length = n2) := hid (by rw [HBl.out, List.length_take, catL_length]; omega)
    have N4 := hid (fun w' hU => M4.out w' hU)
    unfold BytOut2 at N4
    rw [hbE, hbD] at N4
    unfold drw at N4
    have fk1 : IntKind.i64.wrap ((n2 : Int) + 31) = (n2 : Int) + 31 := by rw [IntKind.wrap_i64]; omega
    have fk2 : ((n2 : Int) + 31).tdiv 32 = K := by rw [Int.tdiv_eq_ediv_of_nonneg (by omega)]; omega
    have fk3 : IntKind.i64.wrap (K : Int) = K := by rw [IntKind.wrap_i64]; omega
    have fk4 : IntKind.i64.wrap (c + (K : Int)) = c + K := by rw [IntKind.wrap_i64]; omega
    have fk5 : IntKind.i64.wrap (c + (K : Int) - c) = K := by rw [IntKind.wrap_i64]; omega
    clear hK hbE hbD
    generalize bytL h c n2 = L at *
    go_wp2_with (refine wpList_load_row rfl 25 _ rfl o rfl 25 (drwA h c) (0, 0) _ HD20.out Tryd.underlying25 rfl (sizeDrw _ _) ?_)
    refine (N4.out _ HU20.out).mono ?_
    rintro e w21 ⟨v21, rfl, ⟨hv21, hva⟩, hU21⟩
    have lg := HG20.out.lt
    have lo := HD20.out.lt
    have hV22 := hva g11 (drwA h (c + K)) lg
    have HG21 := hid (HG20.out.up hU21)
    have hD22 : Blk (w21.setRow g11 (drwA h (c + K))) o 25 (drwA h c) := (HD20.out.up hU21).rowApart (show o ≠ g11 by omega) _
    have hG22 : Blk (w21.setRow g11 (drwA h (c + K))) g11 25 (drwA h (c + K)) := HG21.out.row _
    have hU22 := (HU20.out.trans hU21).setRow hwg (drwA h (c + K))
    obtain ⟨a21, c21, rfl, hlc, _⟩ := hv21.shape
    have HV22 := hid hV22
    have HD22 := hid hD22
    have HG22 := hid hG22
    have HU22 := hid hU22
    rw [HBn.out] at HV22 hlc ⊢
    clear hU21 HU20 HD20 HG20 hv21 hva hV22 hD22 hG22 hU22 kc lg lo dc
    have kc := HD22.out.val HC.out
    have kg := HG22.out.val (drwA_ctr h (c + K))
    have hq := HQ.out
    go_wp2_with (first
      | (refine wpList_store_rowTo rfl 25 _ _ rfl rfl g11 (drwA h (c + K)) rfl rfl 25 _ HG21.out (sizeDrw _ _) (by rw [drwA_size, hX1]) (drwA_one _ _) ?_; generalize w21.setRow g11 (drwA h (c + K)) = w22 at *)
      | (refine wpList_load_midG (by rfl) 23 _ rfl g11 0 rfl (arrK .u8 h 32).toList _ (drw_hash HG22.out) Tryd.underlying23 rfl (sizeHs _) ?_; rw [Array.toArray_toList])
      | (refine wpList_load_midG (by rfl) 23 _ rfl o 0 rfl (arrK .u8 h 32).toList _ (drw_hash HD22.out) Tryd.underlying23 rfl (sizeHs _) ?_; rw [Array.toArray_toList]))
    clear kc kg hq fk1 fk2 fk3 fk4 fk5 HG22 HG21 N4
    go_loopw [143] (fun vi wr => ∃ i : Nat, i ≤ K ∧ vi = .int .i64 i ∧ Hid (Up w22 wr)) (fun vi _ => K - (intOf vi).toNat)
    case atStart => exact ⟨0, by omega, rfl, hid (Up.refl _)⟩
    case round =>
      obtain ⟨i, hi, rfl, HUr⟩ := hrel
      by_cases hlt : i < K
      case neg =>
        obtain rfl : i = K := by omega
        go_wp2
        go_ret
        exact ⟨rfl, HU22.out.trans HUr.out⟩
      have HDr := hid (HD22.out.up HUr.out)
      have HVr := hid (HV22.out.up HUr.out)
      have HUw := hid (HU22.out.trans HUr.out)
      obtain ⟨b5, f5, k5, e5, _⟩ := HVr.out.cell (i := 0) (by rw [HBn.out]; omega)
      obtain ⟨rfl, -, -⟩ := Value.slice.inj e5
      clear e5
      obtain ⟨d, hd⟩ : ∃ d, c + (i : Int) = d := ⟨_, rfl⟩
      have HDd := hid hd
      have fd : IntKind.i64.wrap d = d := by rw [IntKind.wrap_i64]; omega
      have hdc : c + (i : Int) = d := hd
      clear hd
      go_wp2_with fail
      refine (M6.out _ _ (seedAt HDr.out (fun j hj => drwA_get h c hj))).mono ?_
      rintro e w6 ⟨v6, rfl, hO6, hU6⟩
      obtain ⟨B6, hB6⟩ : ∃ b, wr.heap.size = b := ⟨_, rfl⟩
      have HB6 := hid hB6
      rw [hB6] at hO6
      obtain ⟨S, hSd⟩ : ∃ S, hList h = S := ⟨_, rfl⟩
      have HSL : Hid (S.length = 32) := hid (by rw [← hSd]; exact hList_length h)
      have HPo : Hid (S ++ beL 8 d = posL h d) := hid (by rw [← hSd]; rfl)
      rw [hSd] at hO6
      obtain ⟨n, hn⟩ : ∃ n, n = 32 := ⟨_, rfl⟩
      have HN := hid hn
      have HLen : Hid (∀ k, k ≤ 8 → (S ++ (beL 8 d).take k).length = n + k) := hid (fun k hk => by
        rw [List.length_append, HSL.out, HN.out, List.length_take, beL_length]
        omega)
      rw [show S = S ++ (beL 8 d).take 0 by simp] at hO6
      obtain ⟨p6, c6, rfl, _, _⟩ := hO6.shape
      have hl0 : (S ++ (beL 8 d).take 0).length = n := HLen.out 0 (by omega)
      rw [hl0] at hO6 ⊢
      clear hl0 hB6 hSd
      have HO6 := hid hO6
      have HU6 := hid hU6
      have hnn : n ≤ 32 := by omega
      clear hO6 hU6 hn
      go_wp2_with fail
      obtain ⟨i0, hi0⟩ : ∃ i0 : Int, i0 = 56 := ⟨_, rfl⟩
      have HI0 := hid hi0
      rw [← hi0]
      clear hi0
      have HT := hid (beL_take d)
      go_loopw [22, 23] (fun vp vj ws => ∃ (k : Nat) (p : Option Addr) (cp : Nat) (j : Int), k ≤ 8 ∧ vj = .int .i64 j ∧ vp = .slice p (n + k) cp ∧ Hid (j = 56 - 8 * (k : Int)) ∧ Hid (OwnS 5 .u8 ws B6 (.slice p (n + k) cp) (S ++ (beL 8 d).take k)) ∧ Hid (Up wr ws)) (fun _ vj _ => (intOf vj + 8).toNat)
      case atStart => exact ⟨0, _, _, _, by omega, rfl, rfl, hid (by rw [HI0.out]; rfl), HO6, HU6⟩
      case round =>
        clear HO6 HU6 HI0
        obtain ⟨k, p, cp, j, hk, rfl, rfl, HJ, HO, HUs⟩ := hrel
        have hsz : B6 ≤ wr.heap.size := by have := HUs.out.size; have := HB6.out; omega
        by_cases hlt8 : k < 8
        · have hj := HJ.out
          have hj0 : 0 ≤ j := by omega
          have hj1 : j ≤ 56 := by omega
          have HJ2 : Hid (j.toNat = 56 - 8 * k) := hid (by omega)
          have HLk := hid (HLen.out k (by omega))
          have HLk1 := hid (HLen.out (k + 1) (by omega))
          have HTk : Hid (S ++ (beL 8 d).take k ++ [d / 2 ^ j.toNat % 256] = S ++ (beL 8 d).take (k + 1)) := hid (by rw [HT.out k hlt8, HJ2.out, List.append_assoc])
          have q1 := (HDr.out.up HUs.out).val HC.out
          clear hj
          have d0 : decide (j ≥ 0) = true := by simpa using hj0
          obtain ⟨m, hme⟩ : ∃ m, n + k = m := ⟨_, rfl⟩
          have HM := hid hme
          have hm : m ≤ 40 := by omega
          rw [hme] at HO HLk
          rw [hme]
          clear hme
          go_wp2_with (at_builtin; refine wp_app infoU8 Tryd.underlying31 (by omega) rfl _ _ rfl B6 rfl rfl (HO.out.up ((Up.refl wr).alloc _)) (seq_new _ _ _) (by rw [HLk.out]; simp only [List.length_cons, List.length_nil]; omega) (by simp; omega) ?_; intro v' w' hO' hg')
          have hU' := (HUs.out.alloc _).own (HO.out.up ((Up.refl wr).alloc _)) hg' (by have := HB6.out; omega)
          rw [HTk.out] at hO'
          obtain ⟨p', k', rfl, _, _⟩ := hO'.shape
          rw [HLk1.out] at hO'
          rw [HLk1.out]
          have HO' := hid hO'
          have HU' := hid hU'
          have HJ3 : Hid (j - 8 = 56 - 8 * ((k + 1 : Nat) : Int)) := hid (by have := HJ.out; omega)
          clear hO' hU' hg'
          go_roundw
          case rel => exact ⟨k + 1, _, _, _, by omega, rfl, rfl, HJ3, HO', HU'⟩
          case measure => simp [intOf]; omega
        · obtain rfl : k = 8 := by omega
          have hj := HJ.out
          have hj0 : ¬ 0 ≤ j := by omega
          have d0 : decide (j ≥ 0) = false := by simpa using hj0
          have HO8 : Hid (SeqAt .u8 wr (.slice p (n + 8) cp) (posL h d)) := hid (by
            have h := HO.out.seq
            rw [List.take_of_length_le (by rw [beL_length]; omega), HPo.out] at h
            exact h)
          clear hj hj0 HO HLen HT
          go_wp2_with fail
          refine (M7.out _ (HUw.out.trans HUs.out) _ d HO8.out).mono ?_
          rintro e w8 ⟨rfl, hU8⟩
          have hlo : 32 * i ≤ n2 := by omega
          obtain ⟨hi', hhi⟩ : ∃ m : Nat, min (32 * i + 32) n2 = m := ⟨_, rfl⟩
          have hh1 : 32 * i ≤ hi' := by omega
          have hh2 : hi' ≤ n2 := by omega
          have hh3 : hi' ≤ 32 * i + 32 := by omega
          have hhm : min (32 * (i : Int) + 32) (n2 : Int) = (hi' : Int) := by omega
          obtain ⟨m, hm⟩ : ∃ m : Nat, hi' - 32 * i = m := ⟨_, rfl⟩
          have hm1 : m ≤ 32 := by omega
          have hm2 : (m : Int) ≤ 32 := by omega
          have HM := hid hm
          have fm1 : IntKind.i64.wrap (32 * (i : Int)) = 32 * (i : Int) := by rw [IntKind.wrap_i64]; omega
          have fm2 : IntKind.i64.wrap (32 * (i : Int) + 32) = 32 * (i : Int) + 32 := by rw [IntKind.wrap_i64]; omega
          have HY := hid (fun i => shaB_range (posL h d) i)
          obtain ⟨Y, hYd⟩ : ∃ Y, shaB (posL h d) = Y := ⟨_, rfl⟩
          have HYd := hid hYd
          rw [hYd]
          clear hYd HO8
          unfold hashV
          obtain ⟨g24, hg24⟩ : ∃ g, w8.heap.size = g := ⟨_, rfl⟩
          have HG24 := hid hg24
          obtain ⟨w9, hw9⟩ : ∃ w9, w8.alloc (.cells (arrK .u8 Y 32) 23) = w9 := ⟨_, rfl⟩
          have HW9 := hid hw9
          have HS9 : Hid (Blk w9 g24 23 (arrK .u8 Y 32)) := hid (by rw [← hw9]; exact Blk.new hg24 rfl)
          have hu9 := hU8.alloc (.cells (arrK .u8 Y 32) 23)
          rw [hw9] at hu9
          have HU9 := hid (HUs.out.trans hu9)
          have HA1 : Hid (SeqAt .u8 w9 (.slice (some ⟨b5, f5 + 32 * i, none⟩) m (c21 - 32 * i)) ((hList Y).take m)) := hid (by
            have h := seq_sub (HVr.out.up HU9.out) hh1 hh2
            rw [HBl.out, ← hhi, byt_cut hlt hlo, HDd.out, HYd.out, hhi, hm] at h
            exact h)
          have HA2 : Hid (SeqAt .u8 w9 (.slice (some ⟨g24, 0, none⟩) m 32) ((hList Y).take m)) := hid (seq_block HS9.out ((hList Y).take m) 0 m 32 (by rw [List.length_take, hList_length]; omega) hm1 (by decide) (fun j hj => by
            have hj32 : j < 32 := by omega
            rw [Nat.zero_add, arrK_get hj32]
            simp [hList, hj, hj32]))
          clear hu9 hU8 HUs
          clear hg24 hw9
          go_wp2_with (refine wpList_store_rowTo rfl 23 _ _ rfl rfl _ (arrK .u8 Y 32) rfl rfl 23 _ (heap_alloc_new _ _) (by rw [arrK_size]; kernel_rfl) (by rw [arrK_size]; rfl) arrK_one ?_; rw [World.setRow_alloc_new, HG24.out, HW9.out])
          refine (equalB_same _ _ _ w9 HA1.out HA2.out (by rw [List.length_take, hList_length]; omega)).mono ?_
          rintro e w10 ⟨rfl, hU10⟩
          have HU10 := hid (HUr.out.trans (HU9.out.trans hU10))
          clear hU10 hlt8 hk HU9 HA1 HA2 hm hm1 hm2 hhm hh1 hh2 hh3 hhi fm1 fm2
          go_wp2_with fail
          go_roundw
          case rel => exact ⟨i + 1, by omega, by go_num, HU10⟩
          case measure => simp [intOf]; omega
  obtain ⟨hXe, hLe, hke, hfe⟩ := HOk.out h0
  subst h0
  subst hXe
  obtain ⟨⟨v0, v1⟩, q0, q1⟩ := chk_iff.1 hke
  have HNx := hid (fun k (hk : k < n1) => nxt_list v0 v1 q0 q1 (lstF_back hfe (k + 1) (by omega)))
  rw [hLe] at HV3
  rw [hLe, lstL_length]
  rw [lstL_length] at *
  have HLn := hid (lstL_length h q c n1)
  have HRn := hid (lstC_range (h := h) (q := q) v0 v1 n1)
  clear HOk hke hfe hLe
  obtain ⟨w3, hw3⟩ : ∃ w3, w2.alloc (.cells (drwA h (lstC h q c n1)) 25) = w3 := ⟨_, rfl⟩
  rw [hw3] at HD3 HU3 HG3 HV3
  have HW3 := hid hw3
  obtain ⟨g14, hg14⟩ : ∃ g, w3.heap.size = g := ⟨_, rfl⟩
  have HG4 := hid hg14
  obtain ⟨w4, hw4⟩ : ∃ w4, w3.alloc (.cells (drwA h c) 25) = w4 := ⟨_, rfl⟩
  have HW4 := hid hw4
  have HG14 : Hid (Blk w4 g14 25 (drwA h (lstC h q c 0))) := hid (by rw [← hw4]; exact Blk.new hg14 rfl)
  have HU4 : Hid (Up w3 w4) := hid (by rw [← hw4]; exact (Up.refl _).alloc _)
  clear hw3 hw4 hg14
  go_wp2_with (first
    | (refine wpList_store_rowTo rfl 25 _ _ rfl rfl _ (drwA h (lstC h q c n1)) rfl rfl 25 _ (heap_alloc_new _ _) hX3 (by rw [hX1]; rfl) hX2 ?_; rw [World.setRow_alloc_new, HGg.out, HW3.out])
    | (refine wpList_store_rowTo rfl 25 _ _ rfl rfl _ (drwA h c) rfl rfl 25 _ (heap_alloc_new _ _) (sizeDrw _ _) (by rw [drwA_size]; rfl) (drwA_one _ _) ?_; rw [World.setRow_alloc_new, HG4.out, HW4.out])
    | (refine wpList_load_row rfl 25 _ rfl o rfl 25 (drwA h c) (0, 0) _ HD3.out Tryd.underlying25 rfl (sizeDrw _ _) ?_))
  go_loopw [51] (fun vi wr => ∃ k : Nat, k ≤ n1 ∧ vi = .int .i64 k ∧ Hid (Up w3 wr) ∧ Hid (Blk wr g14 25 (drwA h (lstC h q c k)))) (fun vi _ => n1 - (intOf vi).toNat)
  case atStart => exact ⟨0, by omega, rfl, HU4, HG14⟩
  case round =>
    clear HU4 HG14
    obtain ⟨k, hk, rfl, HUr, HGr⟩ := hrel
    by_cases hlt : k < n1
    · have HDr := hid (HD3.out.up HUr.out)
      obtain ⟨b2, f2, k2, e2, q2⟩ := (HV3.out.up HUr.out).cell (i := k) (by rw [HLn.out]; exact hlt)
      obtain ⟨rfl, -, rfl⟩ := Value.slice.inj e2
      rw [lstL_get hlt] at q2
      obtain ⟨nx, z0, zq, cc⟩ := HNx.out k hlt
      have N5 := hid (fun w' hU => M5.out w' hU (lstC h q c k))
      rw [nx] at N5
      unfold drw at N5
      obtain ⟨ck1, hck1⟩ : ∃ d, lstC h q c (k + 1) = d := ⟨_, rfl⟩
      have HK1 := hid hck1
      rw [hck1] at N5 cc
      clear nx e2 hck1
      have d1 : decide (lstX h q c k < 0) = false := by simp; omega
      have d2 : decide (lstX h q c k ≥ q) = false := by simp; omega
      have d3 : decide (ck1 ≤ lstC h q c k) = false := by simp; omega
      generalize lstX h q c k = Xk at *
      generalize lstC h q c k = ck at *
      go_wp2_with (refine wpList_load_row rfl 25 _ rfl g14 rfl 25 (drwA h ck) (0, 0) _ HGr.out Tryd.underlying25 rfl (sizeDrw _ _) ?_)
      refine (N5.out _ (HU3.out.trans HUr.out)).mono ?_
      rintro e w5 ⟨rfl, hU5⟩
      obtain ⟨g17, hg17⟩ : ∃ g, w5.heap.size = g := ⟨_, rfl⟩
      have HG17 := hid hg17
      obtain ⟨w6, hw6⟩ : ∃ w6, w5.alloc (.cells (drwA h ck1) 25) = w6 := ⟨_, rfl⟩
      have HW6 := hid hw6
      have hu : Up wr w6 := by rw [← hw6]; exact hU5.alloc _
      have HS6 : Hid (Blk w6 g17 25 (drwA h ck1)) := hid (by rw [← hw6]; exact Blk.new hg17 rfl)
      have HG6 := hid (HGr.out.up hu)
      have HD6 := hid (HDr.out.up hu)
      obtain ⟨w7, hw7⟩ : ∃ w7, w6.setRow g14 (drwA h ck1) = w7 := ⟨_, rfl⟩
      have HW7 := hid hw7
      have HG7 : Hid (Blk w7 g14 25 (drwA h ck1)) := hid (by rw [← hw7]; exact HG6.out.row _)
      have HU7 : Hid (Up w3 w7) := hid (by rw [← hw7]; exact (HUr.out.trans hu).setRow (by have := HG4.out; omega) _)
      clear hU5 hg17 hw6 hw7 hu HGr HDr q2 cc z0 zq N5
      have kc := HS6.out.val (drwA_ctr h ck1)
      have kg := HG6.out.val (drwA_ctr h ck)
      have hq := HQ.out
      go_wp2_with (first
        | (refine wpList_store_rowTo rfl 25 _ _ rfl rfl g14 (drwA h ck1) rfl rfl 25 _ HG6.out (sizeDrw _ _) (by rw [drwA_size, drwA_size]) (drwA_one _ _) ?_; rw [HW7.out])
        | (refine wpList_store_rowTo rfl 25 _ _ rfl rfl _ (drwA h ck1) rfl rfl 25 _ (heap_alloc_new _ _) (sizeDrw _ _) (by rw [drwA_size]; rfl) (drwA_one _ _) ?_; rw [World.setRow_alloc_new, HG17.out, HW6.out])
        | (refine wpList_load_midG (by rfl) 23 _ rfl g17 0 rfl (arrK .u8 h 32).toList _ (drw_hash HS6.out) Tryd.underlying23 rfl (sizeHs _) ?_; rw [Array.toArray_toList])
        | (refine wpList_load_midG (by rfl) 23 _ rfl o 0 rfl (arrK .u8 h 32).toList _ (drw_hash HD6.out) Tryd.underlying23 rfl (sizeHs _) ?_; rw [Array.toArray_toList])
        | (refine wpList_load_row rfl 25 _ rfl g17 rfl 25 (drwA h ck1) (0, 0) _ HS6.out Tryd.underlying25 rfl (sizeDrw _ _) ?_))
      go_roundw
      case rel => exact ⟨k + 1, by omega, by go_num, HU7, by rw [HK1.out]; exact HG7⟩
      case measure => simp [intOf]; omega
    · obtain rfl : k = n1 := by omega
      clear hlt hk
      have HUR := hid (HU3.out.trans HUr.out)
      have HDR := hid (HD3.out.up HUr.out)
      have HGR := hid (HG3.out.up HUr.out)
      have hqd := fun w' => HQd.out w' _ HRn.out.1 HRn.out.2
      go_wp2_with (first
        | (refine wpList_load_row rfl 25 _ rfl g14 rfl 25 (drwA h (lstC h q c k)) (0, 0) _ HGr.out Tryd.underlying25 rfl (sizeDrw _ _) ?_)
        | (refine wpList_load_row rfl 25 _ rfl g11 rfl 25 (drwA h (lstC h q c k)) (0, 0) _ HGR.out Tryd.underlying25 rfl (sizeDrw _ _) ?_)
        | (refine wpList_load_row rfl 25 _ rfl o rfl 25 (drwA h c) (0, 0) _ HDR.out Tryd.underlying25 rfl (sizeDrw _ _) ?_))
      clear hqd v0 v1
      refine (M2.out _).mono ?_
      rintro e w20 ⟨rfl, hU20⟩
      have HU20 := hid (HUR.out.trans hU20)
      have HD20 := hid (HDR.out.up hU20)
      have HG20 := hid (HGR.out.up hU20)
      clear hU20 HUR HDR HGR
      have kc := HD20.out.val HC.out
      cases hV : dvB c
      case false =>
        clear hV
        go_wp2
        go_ret
        exact ⟨rfl, HU20.out⟩
      obtain ⟨v0, v1⟩ := dvB_iff.1 hV
      clear hV
      by_cases hc : c > 549755813888
      case pos =>
        have d : decide (c > 549755813888) = true := by simp; omega
        clear hc
        go_wp2
        go_ret
        exact ⟨rfl, HU20.out⟩
      have dc : decide (c > 549755813888) = false := by simp; omega
      obtain ⟨K, hK, hK1⟩ : ∃ K : Nat, needB n2 = K ∧ K ≤ 10 := ⟨(needB n2).toNat, by unfold needB; omega, by unfold needB; omega⟩
      have hKn : 32 * K < n2 + 32 ∧ n2 ≤ 32 * K := by unfold needB at hK; omega
      have hbE : bytE c n2 = 0 := by rw [bytE, if_pos (chk_iff.2 ⟨⟨v0, v1⟩, by omega, by omega⟩), hK, if_pos (by omega)]
      have hbD : bytD h c n2 = drw h (c + K) := by rw [bytD, if_pos hbE, hK]
      have HBl : Hid (bytL h c n2 = (catL h c K).take n2) := hid (by rw [bytL, if_pos hbE, hK, Int.toNat_natCast, Int.toNat_natCast])
      have HBn : Hid ((bytL h c n2).length = n2) := hid (by rw [HBl.out, List.length_take, catL_length]; omega)
      have N4 := hid (fun w' hU => M4.out w' hU)
      unfold BytOut2 at N4
      rw [hbE, hbD] at N4
      unfold drw at N4
      have fk1 : IntKind.i64.wrap ((n2 : Int) + 31) = (n2 : Int) + 31 := by rw [IntKind.wrap_i64]; omega
      have fk2 : ((n2 : Int) + 31).tdiv 32 = K := by rw [Int.tdiv_eq_ediv_of_nonneg (by omega)]; omega
      have fk3 : IntKind.i64.wrap (K : Int) = K := by rw [IntKind.wrap_i64]; omega
      have fk4 : IntKind.i64.wrap (c + (K : Int)) = c + K := by rw [IntKind.wrap_i64]; omega
      have fk5 : IntKind.i64.wrap (c + (K : Int) - c) = K := by rw [IntKind.wrap_i64]; omega
      clear hK hbE hbD
      generalize bytL h c n2 = L at *
      go_wp2_with (refine wpList_load_row rfl 25 _ rfl o rfl 25 (drwA h c) (0, 0) _ HD20.out Tryd.underlying25 rfl (sizeDrw _ _) ?_)
      refine (N4.out _ HU20.out).mono ?_
      rintro e w21 ⟨v21, rfl, ⟨hv21, hva⟩, hU21⟩
      have lg := HG20.out.lt
      have lo := HD20.out.lt
      have hV22 := hva g11 (drwA h (c + K)) lg
      have HG21 := hid (HG20.out.up hU21)
      have hD22 : Blk (w21.setRow g11 (drwA h (c + K))) o 25 (drwA h c) := (HD20.out.up hU21).rowApart (show o ≠ g11 by omega) _
      have hG22 : Blk (w21.setRow g11 (drwA h (c + K))) g11 25 (drwA h (c + K)) := HG21.out.row _
      have hU22 := (HU20.out.trans hU21).setRow hwg (drwA h (c + K))
      obtain ⟨a21, c21, rfl, hlc, _⟩ := hv21.shape
      have HV22 := hid hV22
      have HD22 := hid hD22
      have HG22 := hid hG22
      have HU22 := hid hU22
      rw [HBn.out] at HV22 hlc ⊢
      clear hU21 HU20 HD20 HG20 hv21 hva hV22 hD22 hG22 hU22 kc lg lo dc
      have kc := HD22.out.val HC.out
      have kg := HG22.out.val (drwA_ctr h (c + K))
      have hq := HQ.out
      go_wp2_with (first
        | (refine wpList_store_rowTo rfl 25 _ _ rfl rfl g11 (drwA h (c + K)) rfl rfl 25 _ HG21.out (sizeDrw _ _) (by rw [drwA_size, drwA_size]) (drwA_one _ _) ?_; generalize w21.setRow g11 (drwA h (c + K)) = w22 at *)
        | (refine wpList_load_midG (by rfl) 23 _ rfl g11 0 rfl (arrK .u8 h 32).toList _ (drw_hash HG22.out) Tryd.underlying23 rfl (sizeHs _) ?_; rw [Array.toArray_toList])
        | (refine wpList_load_midG (by rfl) 23 _ rfl o 0 rfl (arrK .u8 h 32).toList _ (drw_hash HD22.out) Tryd.underlying23 rfl (sizeHs _) ?_; rw [Array.toArray_toList]))
      clear kc kg hq fk1 fk2 fk3 fk4 fk5 HG22 HG21 N4
      go_loopw [143] (fun vi wr => ∃ i : Nat, i ≤ K ∧ vi = .int .i64 i ∧ Hid (Up w22 wr)) (fun vi _ => K - (intOf vi).toNat)
      case atStart => exact ⟨0, by omega, rfl, hid (Up.refl _)⟩
      case round =>
        obtain ⟨i, hi, rfl, HUr⟩ := hrel
        by_cases hlt : i < K
        case neg =>
          obtain rfl : i = K := by omega
          go_wp2
          go_ret
          exact ⟨rfl, HU22.out.trans HUr.out⟩
        have HDr := hid (HD22.out.up HUr.out)
        have HVr := hid (HV22.out.up HUr.out)
        have HUw := hid (HU22.out.trans HUr.out)
        obtain ⟨b5, f5, k5, e5, _⟩ := HVr.out.cell (i := 0) (by rw [HBn.out]; omega)
        obtain ⟨rfl, -, -⟩ := Value.slice.inj e5
        clear e5
        obtain ⟨d, hd⟩ : ∃ d, c + (i : Int) = d := ⟨_, rfl⟩
        have HDd := hid hd
        have fd : IntKind.i64.wrap d = d := by rw [IntKind.wrap_i64]; omega
        have hdc : c + (i : Int) = d := hd
        clear hd
        go_wp2_with fail
        refine (M6.out _ _ (seedAt HDr.out (fun j hj => drwA_get h c hj))).mono ?_
        rintro e w6 ⟨v6, rfl, hO6, hU6⟩
        obtain ⟨B6, hB6⟩ : ∃ b, wr.heap.size = b := ⟨_, rfl⟩
        have HB6 := hid hB6
        rw [hB6] at hO6
        obtain ⟨S, hSd⟩ : ∃ S, hList h = S := ⟨_, rfl⟩
        have HSL : Hid (S.length = 32) := hid (by rw [← hSd]; exact hList_length h)
        have HPo : Hid (S ++ beL 8 d = posL h d) := hid (by rw [← hSd]; rfl)
        rw [hSd] at hO6
        obtain ⟨n, hn⟩ : ∃ n, n = 32 := ⟨_, rfl⟩
        have HN := hid hn
        have HLen : Hid (∀ k, k ≤ 8 → (S ++ (beL 8 d).take k).length = n + k) := hid (fun k hk => by
          rw [List.length_append, HSL.out, HN.out, List.length_take, beL_length]
          omega)
        rw [show S = S ++ (beL 8 d).take 0 by simp] at hO6
        obtain ⟨p6, c6, rfl, _, _⟩ := hO6.shape
        have hl0 : (S ++ (beL 8 d).take 0).length = n := HLen.out 0 (by omega)
        rw [hl0] at hO6 ⊢
        clear hl0 hB6 hSd
        have HO6 := hid hO6
        have HU6 := hid hU6
        have hnn : n ≤ 32 := by omega
        clear hO6 hU6 hn
        go_wp2_with fail
        obtain ⟨i0, hi0⟩ : ∃ i0 : Int, i0 = 56 := ⟨_, rfl⟩
        have HI0 := hid hi0
        rw [← hi0]
        clear hi0
        have HT := hid (beL_take d)
        go_loopw [22, 23] (fun vp vj ws => ∃ (k : Nat) (p : Option Addr) (cp : Nat) (j : Int), k ≤ 8 ∧ vj = .int .i64 j ∧ vp = .slice p (n + k) cp ∧ Hid (j = 56 - 8 * (k : Int)) ∧ Hid (OwnS 5 .u8 ws B6 (.slice p (n + k) cp) (S ++ (beL 8 d).take k)) ∧ Hid (Up wr ws)) (fun _ vj _ => (intOf vj + 8).toNat)
        case atStart => exact ⟨0, _, _, _, by omega, rfl, rfl, hid (by rw [HI0.out]; rfl), HO6, HU6⟩
        case round =>
          clear HO6 HU6 HI0
          obtain ⟨k, p, cp, j, hk, rfl, rfl, HJ, HO, HUs⟩ := hrel
          have hsz : B6 ≤ wr.heap.size := by have := HUs.out.size; have := HB6.out; omega
          by_cases hlt8 : k < 8
          · have hj := HJ.out
            have hj0 : 0 ≤ j := by omega
            have hj1 : j ≤ 56 := by omega
            have HJ2 : Hid (j.toNat = 56 - 8 * k) := hid (by omega)
            have HLk := hid (HLen.out k (by omega))
            have HLk1 := hid (HLen.out (k + 1) (by omega))
            have HTk : Hid (S ++ (beL 8 d).take k ++ [d / 2 ^ j.toNat % 256] = S ++ (beL 8 d).take (k + 1)) := hid (by rw [HT.out k hlt8, HJ2.out, List.append_assoc])
            have q1 := (HDr.out.up HUs.out).val HC.out
            clear hj
            have d0 : decide (j ≥ 0) = true := by simpa using hj0
            obtain ⟨m, hme⟩ : ∃ m, n + k = m := ⟨_, rfl⟩
            have HM := hid hme
            have hm : m ≤ 40 := by omega
            rw [hme] at HO HLk
            rw [hme]
            clear hme
            go_wp2_with (at_builtin; refine wp_app infoU8 Tryd.underlying31 (by omega) rfl _ _ rfl B6 rfl rfl (HO.out.up ((Up.refl wr).alloc _)) (seq_new _ _ _) (by rw [HLk.out]; simp only [List.length_cons, List.length_nil]; omega) (by simp; omega) ?_; intro v' w' hO' hg')
            have hU' := (HUs.out.alloc _).own (HO.out.up ((Up.refl wr).alloc _)) hg' (by have := HB6.out; omega)
            rw [HTk.out] at hO'
            obtain ⟨p', k', rfl, _, _⟩ := hO'.shape
            rw [HLk1.out] at hO'
            rw [HLk1.out]
            have HO' := hid hO'
            have HU' := hid hU'
            have HJ3 : Hid (j - 8 = 56 - 8 * ((k + 1 : Nat) : Int)) := hid (by have := HJ.out; omega)
            clear hO' hU' hg'
            go_roundw
            case rel => exact ⟨k + 1, _, _, _, by omega, rfl, rfl, HJ3, HO', HU'⟩
            case measure => simp [intOf]; omega
          · obtain rfl : k = 8 := by omega
            have hj := HJ.out
            have hj0 : ¬ 0 ≤ j := by omega
            have d0 : decide (j ≥ 0) = false := by simpa using hj0
            have HO8 : Hid (SeqAt .u8 wr (.slice p (n + 8) cp) (posL h d)) := hid (by
              have h := HO.out.seq
              rw [List.take_of_length_le (by rw [beL_length]; omega), HPo.out] at h
              exact h)
            clear hj hj0 HO HLen HT
            go_wp2_with fail
            refine (M7.out _ (HUw.out.trans HUs.out) _ d HO8.out).mono ?_
            rintro e w8 ⟨rfl, hU8⟩
            have hlo : 32 * i ≤ n2 := by omega
            obtain ⟨hi', hhi⟩ : ∃ m : Nat, min (32 * i + 32) n2 = m := ⟨_, rfl⟩
            have hh1 : 32 * i ≤ hi' := by omega
            have hh2 : hi' ≤ n2 := by omega
            have hh3 : hi' ≤ 32 * i + 32 := by omega
            have hhm : min (32 * (i : Int) + 32) (n2 : Int) = (hi' : Int) := by omega
            obtain ⟨m, hm⟩ : ∃ m : Nat, hi' - 32 * i = m := ⟨_, rfl⟩
            have hm1 : m ≤ 32 := by omega
            have hm2 : (m : Int) ≤ 32 := by omega
            have HM := hid hm
            have fm1 : IntKind.i64.wrap (32 * (i : Int)) = 32 * (i : Int) := by rw [IntKind.wrap_i64]; omega
            have fm2 : IntKind.i64.wrap (32 * (i : Int) + 32) = 32 * (i : Int) + 32 := by rw [IntKind.wrap_i64]; omega
            have HY := hid (fun i => shaB_range (posL h d) i)
            obtain ⟨Y, hYd⟩ : ∃ Y, shaB (posL h d) = Y := ⟨_, rfl⟩
            have HYd := hid hYd
            rw [hYd]
            clear hYd HO8
            unfold hashV
            obtain ⟨g24, hg24⟩ : ∃ g, w8.heap.size = g := ⟨_, rfl⟩
            have HG24 := hid hg24
            obtain ⟨w9, hw9⟩ : ∃ w9, w8.alloc (.cells (arrK .u8 Y 32) 23) = w9 := ⟨_, rfl⟩
            have HW9 := hid hw9
            have HS9 : Hid (Blk w9 g24 23 (arrK .u8 Y 32)) := hid (by rw [← hw9]; exact Blk.new hg24 rfl)
            have hu9 := hU8.alloc (.cells (arrK .u8 Y 32) 23)
            rw [hw9] at hu9
            have HU9 := hid (HUs.out.trans hu9)
            have HA1 : Hid (SeqAt .u8 w9 (.slice (some ⟨b5, f5 + 32 * i, none⟩) m (c21 - 32 * i)) ((hList Y).take m)) := hid (by
              have h := seq_sub (HVr.out.up HU9.out) hh1 hh2
              rw [HBl.out, ← hhi, byt_cut hlt hlo, HDd.out, HYd.out, hhi, hm] at h
              exact h)
            have HA2 : Hid (SeqAt .u8 w9 (.slice (some ⟨g24, 0, none⟩) m 32) ((hList Y).take m)) := hid (seq_block HS9.out ((hList Y).take m) 0 m 32 (by rw [List.length_take, hList_length]; omega) hm1 (by decide) (fun j hj => by
              have hj32 : j < 32 := by omega
              rw [Nat.zero_add, arrK_get hj32]
              simp [hList, hj, hj32]))
            clear hu9 hU8 HUs
            clear hg24 hw9
            go_wp2_with (refine wpList_store_rowTo rfl 23 _ _ rfl rfl _ (arrK .u8 Y 32) rfl rfl 23 _ (heap_alloc_new _ _) (by rw [arrK_size]; kernel_rfl) (by rw [arrK_size]; rfl) arrK_one ?_; rw [World.setRow_alloc_new, HG24.out, HW9.out])
            refine (equalB_same _ _ _ w9 HA1.out HA2.out (by rw [List.length_take, hList_length]; omega)).mono ?_
            rintro e w10 ⟨rfl, hU10⟩
            have HU10 := hid (HUr.out.trans (HU9.out.trans hU10))
            clear hU10 hlt8 hk HU9 HA1 HA2 hm hm1 hm2 hhm hh1 hh2 hh3 hhi fm1 fm2
            go_wp2_with fail
            go_roundw
            case rel => exact ⟨i + 1, by omega, by go_num, HU10⟩
            case measure => simp [intOf]; omega
end Go.Proofs.YtdlcmpbpdbpanaaDoor
namespace Go.Proofs.YtdlcmpbpdbpanaaDoor.lawDrawJoins
open Go.Proofs.YtdlcmpbpdbpanaaDoor Go.ChangeShapes Go.WideShapes Go.ChangeAt Go.RowKit Go.Sp

set_option maxRecDepth 100000 in
theorem contract (H : Type) (enc : TypeId × Value → H) (W : World) (base : Nat) (args : Array Value) (ds gs : List (DataW H)) (before : List MemPlace)
    (hval : ∀ (j : Nat) t v, Tryd.f5.params[j]? = some t → args[j]? = some v → Value.okWide Tryd.prog W .any base t v)
    (hW : DataW.Whole enc Tryd.prog Tryd.f5.params.toList Rows.drawJoinsSpec.vars false W args.toList ds gs before) (hL : laidMetH Tryd.prog Rows.drawJoinsRow.laid W) :
    Calls Tryd.prog 5 args W fun e W' => ∃ v, e = .returned v ∧ Rows.drawJoinsSpec.post enc Tryd.prog Tryd.f5 false true false false W args v W' := by
  have hS := tabS_of_sha hL
  have hW' := hW
  obtain ⟨p, q, hA0, hV, rfl, hfz, hnd⟩ := hW
  have hA : DataW.TrodAll enc Tryd.prog W 0 (fun _ => true) true Tryd.f5.params.toList args.toList ds p := hA0
  rw [Tryd.params5] at hA hval
  obtain ⟨v0, vs0, d0, ds0, p0, q0, hargs, rfl, rfl, h0, r0⟩ := trodAll_cons hA
  obtain ⟨v1, vs1, d1, ds1, p1, q1, rfl, rfl, rfl, h1, r1⟩ := trodAll_cons r0
  obtain ⟨v2, vs2, d2, ds2, p2, q2, rfl, rfl, rfl, h2, r2⟩ := trodAll_cons r1
  obtain ⟨v3, vs3, d3, ds3, p3, q3, rfl, rfl, rfl, h3, r3⟩ := trodAll_cons r2
  obtain ⟨rfl, rfl, rfl⟩ := trodAll_nil r3
  obtain rfl : args = #[v0, v1, v2, v3] := by cases args; simp_all
  obtain ⟨rfl, rfl⟩ := trodVars_none hV
  obtain ⟨sd0, ct0, rfl, hd0, bc0, cc0⟩ := open_draw (hval 0 25 v0 rfl rfl) h0
  obtain ⟨x1, rfl, bx1, by1⟩ := open_i64 (hval 1 3 v1 rfl rfl) h1
  obtain ⟨x2, rfl, bx2, by2⟩ := open_u16 (hval 2 43 v2 rfl rfl) h2
  obtain ⟨x3, rfl, bx3, by3⟩ := open_u16 (hval 3 43 v3 rfl rfl) h3
  refine (DrawJoins_walk sd0 ct0 x1 x2 x3 W hS hd0 bc0 cc0 bx2 by2 bx3 by3).mono fun e W' ⟨he, hU⟩ => ?_
  exact ⟨_, he, law_shut Tryd.underlying4 (by kernel_rfl) rfl rfl laidOut (by kernel_rfl) hW' hU⟩

theorem laid_met (os : Os) : laidMet Tryd.prog Rows.drawJoinsRow.laid ((World.laidAll Tryd.prog os laidSha).forCall (fun _ _ => 0) ⟨#[], #[drw zeroH 0, .int .i64 0, .int .u16 0, .int .u16 0], []⟩).memory :=
  laidMet_laidAll _ (by kernel_rfl) (by kernel_rfl)
theorem reads (os : Os) {H : Type} (enc : TypeId × Value → H) : ∃ places, DataW.whole enc Tryd.prog ((World.laidAll Tryd.prog os laidSha).forCall (fun _ _ => 0) ⟨#[], #[drw zeroH 0, .int .i64 0, .int .u16 0, .int .u16 0], []⟩).memory Tryd.f5.params.toList Rows.drawJoinsSpec.vars false (#[drw zeroH 0, .int .i64 0, .int .u16 0, .int .u16 0] : Array Value).toList 8 = some ([.agg [.agg [.lit (.int .u8 0), .lit (.int .u8 0), .lit (.int .u8 0), .lit (.int .u8 0), .lit (.int .u8 0), .lit (.int .u8 0), .lit (.int .u8 0), .lit (.int .u8 0), .lit (.int .u8 0), .lit (.int .u8 0), .lit (.int .u8 0), .lit (.int .u8 0), .lit (.int .u8 0), .lit (.int .u8 0), .lit (.int .u8 0), .lit (.int .u8 0), .lit (.int .u8 0), .lit (.int .u8 0), .lit (.int .u8 0), .lit (.int .u8 0), .lit (.int .u8 0), .lit (.int .u8 0), .lit (.int .u8 0), .lit (.int .u8 0), .lit (.int .u8 0), .lit (.int .u8 0), .lit (.int .u8 0), .lit (.int .u8 0), .lit (.int .u8 0), .lit (.int .u8 0), .lit (.int .u8 0), .lit (.int .u8 0)], .lit (.int .i64 0)], .lit (.int .i64 0), .lit (.int .u16 0), .lit (.int .u16 0)], [], places) :=
  ⟨[], by kernel_rfl⟩

set_option maxRecDepth 100000 in
theorem lifted (os : Os) (started : os.Started) (H : Type) (enc : TypeId × Value → H) (F : Stop.Interp) :
    ReturnsInHanded {} Tryd.checked os 5 .any ((OpenSpec.ofChange Rows.drawJoinsSpec).preRow enc Tryd.prog Tryd.f5 Rows.drawJoinsRow.domain false Rows.drawJoinsRow.laid) (((OpenSpec.ofChange Rows.drawJoinsSpec).at F).post enc Tryd.prog Tryd.f5 false true false false) := by
  obtain ⟨places, hx⟩ := reads os enc
  refine returnsInHanded_of_row (C := Tryd.checked) (s := OpenSpec.ofChange Rows.drawJoinsSpec) own started (by kernel_rfl) Tryd.func5
    (witness_row_at (enc := enc) (C := Tryd.checked) false (World.laidAll Tryd.prog os laidSha) #[drw zeroH 0, .int .i64 0, .int .u16 0, .int .u16 0] (World.laidAll_os _ _ _) (by kernel_rfl) (by kernel_rfl) (by kernel_rfl)
      (OpenSpec.preRow_of_cond 8 hx (by kernel_rfl) (fun k hk => by cases hk) (by kernel_rfl) (laid_met os))) ?_
  intro W base args ds gs before hval hW _ _ _ hL _ _
  exact contract H enc W base args ds gs before hval hW hL

theorem said : Rows.DrawJoinsSaid :=
  OpenClaim.holds_of_cond 5 Tryd.f5 rfl rfl rfl rfl rfl rfl rfl ⟨rfl, rfl, rfl, rfl, rfl⟩ rfl rfl rfl rfl rfl (by kernel_rfl) Tryd.func5 (by kernel_rfl)
    (of_decide_eq_true (by kernel_rfl)) (by unfold Func.isWrapper; first | (rw [if_pos (by decide +kernel)]; kernel_rfl) | (rw [if_neg (by decide +kernel)]; exact ⟨rfl, rfl⟩))
    (fun os started H enc _ F => by rw [OpenClaim.pre_eq_preRow]; exact lifted os started H enc F)

theorem plain (f : FuncId) (fn : Func) (hf : Tryd.pinned.checked.prog.funcNamed "specie/specielaw09.DrawJoins" = some f) (hfn : Tryd.pinned.checked.prog.funcs[f]? = some fn) :
    false = Tryd.pinned.checked.prog.looks [] ∧ ∀ (j : Nat) t, fn.params[j]? = some t → Tryd.pinned.checked.prog.wantsStandIn t = false := by
  obtain rfl : f = 5 := Option.some.inj ((show Tryd.prog.funcNamed "specie/specielaw09.DrawJoins" = some 5 by kernel_rfl).symm.trans hf) |>.symm
  obtain rfl : fn = Tryd.f5 := (Option.some.inj (Tryd.func5.symm.trans hfn)).symm
  refine ⟨by kernel_rfl, fun j t ht => ?_⟩
  have hall : Tryd.f5.params.toList.all (fun t => !Tryd.prog.wantsStandIn t) = true := by kernel_rfl
  have := List.all_eq_true.1 hall t (by rw [← Array.mem_toList_iff.symm]; exact Array.mem_of_getElem? ht)
  exact (by simpa using this : Tryd.prog.wantsStandIn t = false)

/-- The card. -/
theorem card : Rows.DrawJoinsCardSaid :=
  Claim7.holds_tied_plain_at .later [] _ _ _ _ said (fun _ h => by cases h) (by kernel_rfl) (fun _ h => by cases h) drawJoins_row_tie rfl ⟨rfl, rfl⟩ (by kernel_rfl) rfl plain (by kernel_rfl)
end Go.Proofs.YtdlcmpbpdbpanaaDoor.lawDrawJoins
