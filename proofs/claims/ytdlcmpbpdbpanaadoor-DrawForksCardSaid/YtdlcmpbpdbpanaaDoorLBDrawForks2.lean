/- New and Fork return the specified sources or the specified errors, and Valid says which sources are valid: specielaw09.DrawForks returns true. For every input; the tables of package digest as the program's text lays them. DrawForks: the walk. The examples of layer 9. Sources and digests compared with themselves. -/
import Derived.Test.YtdlcmpbpdbpanaaDoorMB19
import Derived.Test.YtdlcmpbpdbpanaaDoorMB18
import Derived.Test.YtdlcmpbpdbpanaaDoorMB31
import Derived.Test.YtdlcmpbpdbpanaaDoorLBDrawForks1
import Derived.Laws.StructEq
import Derived.DeepKeys
import Derived.Lib.SmallJoins
import Derived.Lay
namespace Go.Proofs.YtdlcmpbpdbpanaaDoor
open Go.RowKit Go.Sp
set_option maxHeartbeats 4000000
set_option maxRecDepth 20000

theorem mapM_each {α β : Type} {f : α → Option β} {g : α → β} : ∀ (l : List α), (∀ x ∈ l, f x = some (g x)) → l.mapM f = some (l.map g)
  | [], _ => rfl
  | x :: l, h => by
    rw [List.mapM_cons, h x (by simp), mapM_each l (fun y hy => h y (by simp [hy]))]
    rfl
theorem hash_lits {h : Nat → Int} (hB : Byt h) (d : Nat) : Tryd.prog.keyLits (d + 2) 23 (arrK .u8 h 32).toList = some ((List.range 32).map fun i => Lit.int .u8 (h i)) := by
  unfold Program.keyLits
  simp only [Tryd.underlying23]
  have hl : (arrK .u8 h 32).toList.length = Tryd.prog.cellsOf 23 := by rw [Array.length_toList, arrK_size]; kernel_rfl
  have hc : Tryd.prog.cellsOf 5 = 1 := by kernel_rfl
  rw [if_pos hl, hc]
  rw [mapM_each (g := fun i => [Lit.int .u8 (h i)]) (List.range 32) (fun i hi => by
    have hi : i < 32 := List.mem_range.1 hi
    have e : ((arrK .u8 h 32).toList.drop (i * 1)).take 1 = [.int .u8 (h i)] := by
      rw [Nat.mul_one, List.drop_eq_getElem_cons (by rw [Array.length_toList, arrK_size]; exact hi), List.take_succ_cons, List.take_zero]
      congr 1
      have := arrK_get (k := .u8) (f := h) (n := 32) hi
      simpa [Array.getElem?_eq_some_iff, arrK_size, hi] using this
    rw [e]
    unfold Program.keyLits
    simp only [Tryd.underlying5]
    rw [if_pos ⟨trivial, by
      obtain ⟨h0, h1⟩ := hB i
      have a : IntKind.u8.min = 0 := by decide
      have b : IntKind.u8.max = 255 := by decide
      simp [Lit.wf, a, b]; omega⟩])]
  simp [List.flatten, List.range, List.range.loop]
theorem hash_self {h : Nat → Int} (hB : Byt h) (w : World) : (Op.equalIn 10000 23 (.agg (arrK .u8 h 32)) (.agg (arrK .u8 h 32))).run Tryd.prog w = .ok true w := by
  have hl := hash_lits hB 0
  have hf : Value.formed Tryd.prog 23 (.agg (arrK .u8 h 32)) = true := by
    simp only [Value.formed, Tryd.underlying23, arrK_size]
    kernel_rfl
  obtain ⟨r, hr, hi⟩ := run_equalIn_deep (P := Tryd.prog) 9990 10 23 (by kernel_rfl) w 2 2 _ _ _ _ hf hf hl hl
  rw [hi.2 rfl] at hr
  exact hr
theorem draw_self {h : Nat → Int} {c : Int} (hB : Byt h) (c0 : -9223372036854775808 ≤ c) (c1 : c ≤ 9223372036854775807) (w : World) : (Op.equalIn 10000 25 (.agg (drwA h c)) (.agg (drwA h c))).run Tryd.prog w = .ok true w := by
  have hl : ∃ l, Tryd.prog.keyLits 3 25 (drwA h c).toList = some l := by
    unfold Program.keyLits
    simp only [Tryd.underlying25]
    rw [if_pos ⟨by rw [Array.length_toList, drwA_size]; kernel_rfl, by kernel_rfl⟩]
    have e0 : ((drwA h c).toList.drop 0).take (Tryd.prog.cellsOf 23) = (arrK .u8 h 32).toList := by
      have hc : Tryd.prog.cellsOf 23 = 32 := by kernel_rfl
      rw [hc, List.drop_zero, drwA, Array.toList_push, List.take_append_of_le_length (by rw [Array.length_toList, arrK_size]; exact Nat.le_refl _), List.take_of_length_le (by rw [Array.length_toList, arrK_size]; exact Nat.le_refl _)]
    have e1 : ((drwA h c).toList.drop 32).take (Tryd.prog.cellsOf 3) = [.int .i64 c] := by
      have hc : Tryd.prog.cellsOf 3 = 1 := by kernel_rfl
      have hn : (arrK .u8 h 32).toList.length = 32 := by rw [Array.length_toList, arrK_size]
      rw [hc, drwA, Array.toList_push, List.drop_append_of_le_length (by rw [hn]; exact Nat.le_refl _), List.drop_of_length_le (by rw [hn]; exact Nat.le_refl _)]
      rfl
    simp only [List.mapM_cons, List.mapM_nil]
    rw [e0, e1, hash_lits hB 0]
    unfold Program.keyLits
    simp only [Tryd.underlying3]
    rw [if_pos ⟨trivial, by
      have a : IntKind.i64.min = -9223372036854775808 := by decide
      have b : IntKind.i64.max = 9223372036854775807 := by decide
      simp [Lit.wf, a, b]; omega⟩]
    exact ⟨_, rfl⟩
  obtain ⟨l, hl⟩ := hl
  have hf : Value.formed Tryd.prog 25 (.agg (drwA h c)) = true := by
    simp only [Value.formed, Tryd.underlying25, drwA_size]
    kernel_rfl
  obtain ⟨r, hr, hi⟩ := run_equalIn_deep (P := Tryd.prog) 9990 10 25 (by kernel_rfl) w 3 3 _ _ _ _ hf hf hl hl
  rw [hi.2 rfl] at hr
  exact hr
end Go.Proofs.YtdlcmpbpdbpanaaDoor
namespace Go.Proofs.YtdlcmpbpdbpanaaDoor
open Go.RowKit Go.Sp
set_option maxHeartbeats 4000000
set_option maxRecDepth 20000

theorem nxt_one (h : Nat → Int) (c : Int) (h0 : 0 ≤ c) (h1 : c < 1099511627776) : nxtV h c 1 = .tuple #[drw h (c + 1), .int .i64 0, .int .i64 0] := by
  have hk : chkE c 1 1 2305843009213693951 = 0 := chk_iff.2 ⟨⟨h0, by omega⟩, by omega, by omega⟩
  have hn := numT_pow (h := h) (n := 0) (by omega) (c := c) (by omega)
  rw [nxtV, if_pos hk]
  rw [show ((2 : Int) ^ 0) = 1 from rfl] at hn
  rw [hn]
  simp
theorem byt_33 (h : Nat → Int) : bytE 0 33 = 0 ∧ bytD h 0 33 = drw h 2 ∧ (bytL h 0 33).length = 33 := by
  have hk : chkE 0 33 0 16384 = 0 := by decide +kernel
  have hn : needB 33 = 2 := by decide +kernel
  have he : bytE 0 33 = 0 := by rw [bytE, if_pos hk, hn]; decide
  refine ⟨he, by rw [bytD, if_pos he, hn]; rfl, ?_⟩
  rw [bytL, if_pos he, hn, List.length_take, catL_length]
  decide

theorem awake09 (w : World) (hS : TabS w) : Calls Tryd.prog 13 #[] w fun e w' => e = .returned (.bool true) ∧ Up w w' := by
  have M1 := hid (fun w' (v : Value) (hU : Up w w') (hv : SeqAt .u8 w' v [120]) => New_any v [120] w' (hS.up hU) hv (by simp))
  rw [show newV [120] = .tuple #[drw (tagB (txt drawTag) [120]) 0, .int .i64 0] by rw [newV, if_pos (by decide)]] at M1
  have hB : Byt (tagB (txt drawTag) [120]) := fun i => tagB_range _ _ i
  generalize tagB (txt drawTag) [120] = H at *
  have M2 := hid (fun w' (hU : Up w w') => Next_any H 0 1 w' (hS.up hU) hB)
  rw [nxt_one H 0 (by omega) (by omega), show (0 : Int) + 1 = 1 from rfl] at M2
  have M3 := hid (fun w' (hU : Up w w') => Bytes_any H 0 33 w' (hS.up hU) hB)
  obtain ⟨e1, e2, e3⟩ := byt_33 H
  unfold BytOut at M3
  rw [e1, e2] at M3
  have HL := hid e3
  unfold drw at M1 M2 M3
  have HC0 := hid (drwA_ctr H 0)
  have HC1 := hid (drwA_ctr H 1)
  have HC2 := hid (drwA_ctr H 2)
  clear hS hB e1 e2 e3
  have hcv := Lib.run_convert_bytes_const (P := Tryd.prog) w 31 5 #[.int .u8 120] 1 1 Tryd.underlying31 Tryd.underlying5
  go_enter Tryd.func13, Tryd.ntmps13
  go_wp2_with fail
  refine (M1.out _ _ ((Up.refl w).alloc _) (seq_block (heap_alloc_new w _) [120] 0 1 1 rfl (by decide) (by decide) (fun i hi => by
    obtain rfl : i = 0 := by omega
    rfl))).mono ?_
  rintro e w1 ⟨rfl, hU1⟩
  have HU1 := hid (((Up.refl w).alloc _).trans hU1)
  clear hU1
  clear hcv
  obtain ⟨b1, hb1⟩ : ∃ b, w1.heap.size = b := ⟨_, rfl⟩
  have HB1 := hid hb1
  clear hb1
  have HU1a := hid (HU1.out.alloc (.cells (drwA H 0) 25))
  go_wp2_with (first | (refine wpList_store_rowTo rfl 25 _ _ rfl rfl _ (drwA _ _) rfl rfl 25 _ (heap_alloc_new _ _) (sizeDrw _ _) (by rw [drwA_size]; rfl) (drwA_one _ _) ?_; rw [World.setRow_alloc_new]) | (refine wpList_load_row rfl 25 _ rfl w1.heap.size rfl 25 (drwA H 0) (0, 0) _ (Blk.new rfl rfl) Tryd.underlying25 rfl (sizeDrw _ _) ?_))
  refine (M2.out _ HU1a.out).mono ?_
  rintro e w2 ⟨rfl, hU2⟩
  rw [HB1.out]
  have HD2 := hid ((Blk.new (w := w1) (t := 25) (cs := drwA H 0) HB1.out rfl).up hU2)
  have HU2 := hid (HU1a.out.trans hU2)
  clear hU2 HU1a HU1
  obtain ⟨b2, hb2⟩ : ∃ b, w2.heap.size = b := ⟨_, rfl⟩
  have HB2 := hid hb2
  clear hb2
  have HD2a := hid (HD2.out.alloc (.cells (drwA H 1) 25))
  have HU2a := hid (HU2.out.alloc (.cells (drwA H 1) 25))
  go_wp2_with (first | (refine wpList_store_rowTo rfl 25 _ _ rfl rfl _ (drwA _ _) rfl rfl 25 _ (heap_alloc_new _ _) (sizeDrw _ _) (by rw [drwA_size]; rfl) (drwA_one _ _) ?_; rw [World.setRow_alloc_new]) | (refine wpList_load_row rfl 25 _ rfl b1 rfl 25 (drwA H 0) (0, 0) _ HD2a.out Tryd.underlying25 rfl (sizeDrw _ _) ?_))
  refine (M3.out _ HU2a.out).mono ?_
  rintro e w3 ⟨v3, rfl, hv3, hU3⟩
  rw [HB2.out]
  have HD3 := hid (HD2a.out.up hU3)
  have HE3 := hid ((Blk.new (w := w2) (t := 25) (cs := drwA H 1) HB2.out rfl).up hU3)
  have HU3 := hid (HU2a.out.trans hU3)
  obtain ⟨a3, c3, rfl, _, _⟩ := hv3.shape
  rw [HL.out]
  clear hU3 hv3 HD2 HD2a HU2 HU2a
  have k1 := (HD3.out.alloc (.cells (drwA H 2) 25)).val HC0.out
  have k2 := (HE3.out.alloc (.cells (drwA H 2) 25)).val HC1.out
  have k3 := (Blk.new (w := w3) (t := 25) (cs := drwA H 2) rfl rfl).val HC2.out
  have HU4 := hid (HU3.out.alloc (.cells (drwA H 2) 25))
  go_wp2_with (refine wpList_store_rowTo rfl 25 _ _ rfl rfl _ (drwA _ _) rfl rfl 25 _ (heap_alloc_new _ _) (sizeDrw _ _) (by rw [drwA_size]; rfl) (drwA_one _ _) ?_; rw [World.setRow_alloc_new])
  go_ret
  exact ⟨rfl, HU4.out⟩
end Go.Proofs.YtdlcmpbpdbpanaaDoor
namespace Go.Proofs.YtdlcmpbpdbpanaaDoor
open Go.RowKit Go.Sp
set_option maxHeartbeats 4000000
set_option maxRecDepth 20000

theorem zero_self (w : World) : (Op.equalIn 10000 25 (.agg (drwA zeroH 0)) (.agg #[.int .u8 0, .int .u8 0, .int .u8 0, .int .u8 0, .int .u8 0, .int .u8 0, .int .u8 0, .int .u8 0, .int .u8 0, .int .u8 0, .int .u8 0, .int .u8 0, .int .u8 0, .int .u8 0, .int .u8 0, .int .u8 0, .int .u8 0, .int .u8 0, .int .u8 0, .int .u8 0, .int .u8 0, .int .u8 0, .int .u8 0, .int .u8 0, .int .u8 0, .int .u8 0, .int .u8 0, .int .u8 0, .int .u8 0, .int .u8 0, .int .u8 0, .int .u8 0, .int .i64 0])).run Tryd.prog w = .ok true w := by
  have h := draw_self (h := zeroH) (c := 0) (fun i => ⟨by simp [zeroH], by simp [zeroH]⟩) (by omega) (by omega) w
  rw [← zero33] at h ⊢
  exact h
theorem DrawForks_walk (h : Nat → Int) (c : Int) (v : Value) (xs : List Int) (s : ByteArray) (w : World) (hS : TabS w) (hB : Byt h) (hv : SeqAt .u8 w v xs) (hm : ∀ x ∈ xs, 0 ≤ x ∧ x ≤ 255) :
    Calls Tryd.prog 4 #[v, drw h c, .string s] w fun e w' => e = .returned (.bool true) ∧ Up w w' := by
  have M1 := hid (fun w' (hU : Up w w') => awake09 w' (hS.up hU))
  have MN := hid (fun w' (hU : Up w w') => New_any v xs w' (hS.up hU) (hv.up hU) hm)
  have MF := hid (fun w' (hU : Up w w') => Fork_any h c s w' (hS.up hU) hB)
  have MV := hid (fun w' => draValid_any h c w')
  have MR := hid (fun w' => r09Valid_any h c w')
  have MRN := hid (fun w' (hU : Up w w') (hl : xs.length ≤ 20000) => rNew_any v xs w' (hv.up hU) hl hm)
  have MRF := hid (fun w' (hs : s.size ≤ 300) => rFork_any h c s w' hs hB)
  have HNv : Hid (newV xs = if xs.length ≤ 16384 then .tuple #[drw (tagB (txt drawTag) xs) 0, .int .i64 0] else .tuple #[drw zeroH 0, .int .i64 5]) := hid rfl
  have HFv : Hid (frkV h c s = if chkE c s.size 1 100 = 0 then .tuple #[drw (frkH h c s) 0, .int .i64 0] else .tuple #[drw zeroH 0, .int .i64 (chkE c s.size 1 100)]) := hid rfl
  have HE : Hid (chkE c s.size 1 100 = if dvB c = true then (if 1 ≤ (s.size : Int) ∧ (s.size : Int) ≤ 100 then 0 else 2) else 1) := hid rfl
  generalize chkE c s.size 1 100 = E at *
  generalize frkV h c s = FV at *
  generalize newV xs = NV at *
  have HQn := hid (fun w' => draw_self (h := tagB (txt drawTag) xs) (c := 0) (fun i => tagB_range _ _ i) (by omega) (by omega) w')
  have HQf := hid (fun w' => draw_self (h := frkH h c s) (c := 0) (fun i => tagB_range _ _ i) (by omega) (by omega) w')
  generalize tagB (txt drawTag) xs = HN at *
  generalize frkH h c s = HF at *
  have HQz := hid zero_self
  have HSz := hid (sizeDrw h c)
  unfold drw at MF MV MR MRN MRF HNv HFv ⊢
  generalize drwA h c = D0 at *
  obtain ⟨va, vc, rfl, _, _⟩ := hv.shape
  obtain ⟨n, hn⟩ : ∃ n, xs.length = n := ⟨_, rfl⟩
  rw [hn] at MN MRN HNv ⊢
  obtain ⟨k, hk⟩ : ∃ k, s.size = k := ⟨_, rfl⟩
  have HK := hid hk
  rw [hk] at MRF HE
  obtain ⟨o, ho⟩ : ∃ o, w.heap.size = o := ⟨_, rfl⟩
  have HO := hid ho
  generalize dvB c = B at *
  clear hS hB hv hm hn ho hk
  go_enter Tryd.func4, Tryd.ntmps4
  go_wp2_with fail
  refine (M1.out _ ((Up.refl w).alloc _)).mono ?_
  rintro e w1 ⟨rfl, hU1⟩
  have HD1 := hid ((Blk.new (g := o) (t := 25) (cs := D0) HO.out rfl).up hU1)
  have HU1 := hid (((Up.refl w).alloc _).trans hU1)
  clear hU1
  rw [HO.out]
  by_cases h1 : n ≤ 300
  case pos =>
    have d1 : decide ((n : Int) > 300) = false := by simp; omega
    have d3 : decide ((n : Int) > 16484) = false := by simp; omega
    have d7 : decide ((n : Int) > 16384) = false := by simp; omega
    have HNr : Hid (NV = .tuple #[.agg (drwA HN 0), .int .i64 0]) := hid (by rw [HNv.out, if_pos (by omega)])
    rw [HNr.out] at MN
    clear HNv HNr
    by_cases hks : k > 300
    case pos =>
      have d4 : decide ((k : Int) > 300) = true := by simp; omega
      clear hks
      rw [← HK.out] at d4
      go_wp2
      go_ret
      exact ⟨rfl, HU1.out⟩
    have d4 : decide ((k : Int) > 300) = false := by simp; omega
    cases B
    case false =>
      have hE : E = 1 := by rw [HE.out]; rfl
      subst hE
      have HFr : Hid (FV = .tuple #[.agg (drwA zeroH 0), .int .i64 1]) := hid (by rw [HFv.out]; rfl)
      rw [HFr.out] at MF
      rw [← HK.out] at d4
      clear HFr HFv HE
      go_wp2_with fail
      refine (MN.out _ HU1.out).mono ?_
      rintro e w2 ⟨rfl, hU2⟩
      obtain ⟨g1, hg1⟩ : ∃ g, w2.heap.size = g := ⟨_, rfl⟩
      have HG1 := hid hg1
      have HD3 := hid ((HD1.out.up hU2).alloc (.cells (drwA HN 0) 25))
      have HU3 := hid ((HU1.out.trans hU2).alloc (.cells (drwA HN 0) 25))
      have HE3 := hid (Blk.new (w := w2) (g := g1) (t := 25) (cs := drwA HN 0) hg1 rfl)
      clear hg1 hU2 HU1 HD1
      go_wp2_with (first
        | (refine wpList_store_rowTo rfl 25 _ _ rfl rfl _ (drwA _ _) rfl rfl 25 _ (heap_alloc_new _ _) (sizeDrw _ _) (by rw [drwA_size]; rfl) (drwA_one _ _) ?_; rw [World.setRow_alloc_new]; rw [HG1.out]; generalize w2.alloc (.cells (drwA HN 0) 25) = w3 at *)
        | (refine wpList_load_row rfl 25 _ rfl o rfl 25 D0 (0, 0) _ HD3.out Tryd.underlying25 rfl HSz.out ?_))
      refine (MF.out _ HU3.out).mono ?_
      rintro e w4 ⟨rfl, hU4⟩
      obtain ⟨g2, hg2⟩ : ∃ g, w4.heap.size = g := ⟨_, rfl⟩
      have HG2 := hid hg2
      have HD5 := hid ((HD3.out.up hU4).alloc (.cells (drwA zeroH 0) 25))
      have HE5 := hid ((HE3.out.up hU4).alloc (.cells (drwA zeroH 0) 25))
      have HU5 := hid ((HU3.out.trans hU4).alloc (.cells (drwA zeroH 0) 25))
      have HF5 := hid (Blk.new (w := w4) (g := g2) (t := 25) (cs := drwA zeroH 0) hg2 rfl)
      clear hg2 hU4 HU3 HD3 HE3
      go_wp2_with (refine wpList_store_rowTo rfl 25 _ _ rfl rfl _ (drwA _ _) rfl rfl 25 _ (heap_alloc_new _ _) (sizeDrw _ _) (by rw [drwA_size]; rfl) (drwA_one _ _) ?_; rw [World.setRow_alloc_new]; rw [HG2.out]; generalize w4.alloc (.cells (drwA zeroH 0) 25) = w5 at *)
      go_wp2_with fail
      refine wp_region_up (by kernel_rfl) (by kernel_rfl) ?_
      repeat (first
        | (go_big_quiet_want; (refine quiet_load_row 25 _ (by rfl) o (by rfl) 25 D0 _ HD5.out.from Tryd.underlying25 rfl HSz.out ?_); try simp only [Act.put, List.setIfInBounds_toArray, List.set_cons_zero, List.set_cons_succ]; go_big_quiet_on)
        | go_big_quiet_step ((first
          | (go_at_call 14; exact Calls.up_of (MV.out _))
          | (go_at_call 20; exact Calls.up_of (MR.out _)))))
      refine wpQuiet_nil ?_
      rintro w6 ⟨⟨_, hU6⟩, rfl⟩
      try dsimp only
      have HD6 := hid (HD5.out.up hU6)
      have HE6 := hid (HE5.out.up hU6)
      have HF6 := hid (HF5.out.up hU6)
      have HU6 := hid (HU5.out.trans hU6)
      clear hU6 HD5 HE5 HF5 HU5
      have hq := HQn.out
      go_wp2_with fail
      refine wp_region_up (by kernel_rfl) (by kernel_rfl) ?_
      repeat (first
        | (go_big_quiet_want; (refine quiet_load_row 25 _ (by rfl) g1 (by rfl) 25 (drwA HN 0) _ HE6.out.from Tryd.underlying25 rfl (sizeDrw _ _) ?_); try simp only [Act.put, List.setIfInBounds_toArray, List.set_cons_zero, List.set_cons_succ]; go_big_quiet_on)
        | go_big_quiet_step ((first
          | (go_at_call 21; exact Calls.up_of (MRN.out _ (HU6.out.trans (UpFrom.up _)) (by omega))))))
      refine wpQuiet_nil ?_
      rintro w7 ⟨⟨_, hU7⟩, rfl⟩
      try dsimp only
      have HD7 := hid (HD6.out.up hU7)
      have HE7 := hid (HE6.out.up hU7)
      have HF7 := hid (HF6.out.up hU7)
      have HU7 := hid (HU6.out.trans hU7)
      clear hU7 HD6 HE6 HF6 HU6
      clear hq
      go_wp2_with (refine wpList_load_row rfl 25 _ rfl o rfl 25 D0 (0, 0) _ HD7.out Tryd.underlying25 rfl HSz.out ?_)
      refine (MR.out _).mono ?_
      rintro e w8 ⟨rfl, hU8⟩
      have HD8 := hid (HD7.out.up hU8)
      have HE8 := hid (HE7.out.up hU8)
      have HF8 := hid (HF7.out.up hU8)
      have HU8 := hid (HU7.out.trans hU8)
      clear hU8 HD7 HE7 HF7 HU7
      have hq := HQz.out
      go_wp2_with (refine wpList_load_row rfl 25 _ rfl g2 rfl 25 (drwA zeroH 0) (0, 0) _ HF8.out Tryd.underlying25 rfl (sizeDrw _ _) ?_)
      go_ret
      exact ⟨rfl, HU8.out⟩
    case true =>
      by_cases hr : 1 ≤ (k : Int) ∧ (k : Int) ≤ 100
      case neg =>
        have hE : E = 2 := by rw [HE.out, if_pos rfl, if_neg hr]
        subst hE
        have HFr : Hid (FV = .tuple #[.agg (drwA zeroH 0), .int .i64 2]) := hid (by rw [HFv.out]; rfl)
        rw [HFr.out] at MF
        clear HFr HFv HE
        by_cases hk0 : k < 1
        case pos =>
          have d5 : decide ((k : Int) < 1) = true := by simp; omega
          rw [← HK.out] at d4 d5
          clear hr hk0
          go_wp2_with fail
          refine (MN.out _ HU1.out).mono ?_
          rintro e w2 ⟨rfl, hU2⟩
          obtain ⟨g1, hg1⟩ : ∃ g, w2.heap.size = g := ⟨_, rfl⟩
          have HG1 := hid hg1
          have HD3 := hid ((HD1.out.up hU2).alloc (.cells (drwA HN 0) 25))
          have HU3 := hid ((HU1.out.trans hU2).alloc (.cells (drwA HN 0) 25))
          have HE3 := hid (Blk.new (w := w2) (g := g1) (t := 25) (cs := drwA HN 0) hg1 rfl)
          clear hg1 hU2 HU1 HD1
          go_wp2_with (first
            | (refine wpList_store_rowTo rfl 25 _ _ rfl rfl _ (drwA _ _) rfl rfl 25 _ (heap_alloc_new _ _) (sizeDrw _ _) (by rw [drwA_size]; rfl) (drwA_one _ _) ?_; rw [World.setRow_alloc_new]; rw [HG1.out]; generalize w2.alloc (.cells (drwA HN 0) 25) = w3 at *)
            | (refine wpList_load_row rfl 25 _ rfl o rfl 25 D0 (0, 0) _ HD3.out Tryd.underlying25 rfl HSz.out ?_))
          refine (MF.out _ HU3.out).mono ?_
          rintro e w4 ⟨rfl, hU4⟩
          obtain ⟨g2, hg2⟩ : ∃ g, w4.heap.size = g := ⟨_, rfl⟩
          have HG2 := hid hg2
          have HD5 := hid ((HD3.out.up hU4).alloc (.cells (drwA zeroH 0) 25))
          have HE5 := hid ((HE3.out.up hU4).alloc (.cells (drwA zeroH 0) 25))
          have HU5 := hid ((HU3.out.trans hU4).alloc (.cells (drwA zeroH 0) 25))
          have HF5 := hid (Blk.new (w := w4) (g := g2) (t := 25) (cs := drwA zeroH 0) hg2 rfl)
          clear hg2 hU4 HU3 HD3 HE3
          go_wp2_with (refine wpList_store_rowTo rfl 25 _ _ rfl rfl _ (drwA _ _) rfl rfl 25 _ (heap_alloc_new _ _) (sizeDrw _ _) (by rw [drwA_size]; rfl) (drwA_one _ _) ?_; rw [World.setRow_alloc_new]; rw [HG2.out]; generalize w4.alloc (.cells (drwA zeroH 0) 25) = w5 at *)
          go_wp2_with fail
          refine wp_region_up (by kernel_rfl) (by kernel_rfl) ?_
          repeat (first
            | (go_big_quiet_want; (refine quiet_load_row 25 _ (by rfl) o (by rfl) 25 D0 _ HD5.out.from Tryd.underlying25 rfl HSz.out ?_); try simp only [Act.put, List.setIfInBounds_toArray, List.set_cons_zero, List.set_cons_succ]; go_big_quiet_on)
            | go_big_quiet_step ((first
              | (go_at_call 14; exact Calls.up_of (MV.out _))
              | (go_at_call 20; exact Calls.up_of (MR.out _)))))
          refine wpQuiet_nil ?_
          rintro w6 ⟨⟨_, hU6⟩, rfl⟩
          try dsimp only
          have HD6 := hid (HD5.out.up hU6)
          have HE6 := hid (HE5.out.up hU6)
          have HF6 := hid (HF5.out.up hU6)
          have HU6 := hid (HU5.out.trans hU6)
          clear hU6 HD5 HE5 HF5 HU5
          have hq := HQn.out
          go_wp2_with fail
          refine wp_region_up (by kernel_rfl) (by kernel_rfl) ?_
          repeat (first
            | (go_big_quiet_want; (refine quiet_load_row 25 _ (by rfl) g1 (by rfl) 25 (drwA HN 0) _ HE6.out.from Tryd.underlying25 rfl (sizeDrw _ _) ?_); try simp only [Act.put, List.setIfInBounds_toArray, List.set_cons_zero, List.set_cons_succ]; go_big_quiet_on)
            | go_big_quiet_step ((first
              | (go_at_call 21; exact Calls.up_of (MRN.out _ (HU6.out.trans (UpFrom.up _)) (by omega))))))
          refine wpQuiet_nil ?_
          rintro w7 ⟨⟨_, hU7⟩, rfl⟩
          try dsimp only
          have HD7 := hid (HD6.out.up hU7)
          have HE7 := hid (HE6.out.up hU7)
          have HF7 := hid (HF6.out.up hU7)
          have HU7 := hid (HU6.out.trans hU7)
          clear hU7 HD6 HE6 HF6 HU6
          clear hq
          go_wp2_with (refine wpList_load_row rfl 25 _ rfl o rfl 25 D0 (0, 0) _ HD7.out Tryd.underlying25 rfl HSz.out ?_)
          refine (MR.out _).mono ?_
          rintro e w8 ⟨rfl, hU8⟩
          have HD8 := hid (HD7.out.up hU8)
          have HE8 := hid (HE7.out.up hU8)
          have HF8 := hid (HF7.out.up hU8)
          have HU8 := hid (HU7.out.trans hU8)
          clear hU8 HD7 HE7 HF7 HU7
          have hq := HQz.out
          go_wp2_with (refine wpList_load_row rfl 25 _ rfl g2 rfl 25 (drwA zeroH 0) (0, 0) _ HF8.out Tryd.underlying25 rfl (sizeDrw _ _) ?_)
          go_ret
          exact ⟨rfl, HU8.out⟩
        have d5 : decide ((k : Int) < 1) = false := by simp; omega
        have d6 : decide ((k : Int) > 100) = true := by simp; omega
        rw [← HK.out] at d4 d5 d6
        clear hr hk0
        go_wp2_with fail
        refine (MN.out _ HU1.out).mono ?_
        rintro e w2 ⟨rfl, hU2⟩
        obtain ⟨g1, hg1⟩ : ∃ g, w2.heap.size = g := ⟨_, rfl⟩
        have HG1 := hid hg1
        have HD3 := hid ((HD1.out.up hU2).alloc (.cells (drwA HN 0) 25))
        have HU3 := hid ((HU1.out.trans hU2).alloc (.cells (drwA HN 0) 25))
        have HE3 := hid (Blk.new (w := w2) (g := g1) (t := 25) (cs := drwA HN 0) hg1 rfl)
        clear hg1 hU2 HU1 HD1
        go_wp2_with (first
          | (refine wpList_store_rowTo rfl 25 _ _ rfl rfl _ (drwA _ _) rfl rfl 25 _ (heap_alloc_new _ _) (sizeDrw _ _) (by rw [drwA_size]; rfl) (drwA_one _ _) ?_; rw [World.setRow_alloc_new]; rw [HG1.out]; generalize w2.alloc (.cells (drwA HN 0) 25) = w3 at *)
          | (refine wpList_load_row rfl 25 _ rfl o rfl 25 D0 (0, 0) _ HD3.out Tryd.underlying25 rfl HSz.out ?_))
        refine (MF.out _ HU3.out).mono ?_
        rintro e w4 ⟨rfl, hU4⟩
        obtain ⟨g2, hg2⟩ : ∃ g, w4.heap.size = g := ⟨_, rfl⟩
        have HG2 := hid hg2
        have HD5 := hid ((HD3.out.up hU4).alloc (.cells (drwA zeroH 0) 25))
        have HE5 := hid ((HE3.out.up hU4).alloc (.cells (drwA zeroH 0) 25))
        have HU5 := hid ((HU3.out.trans hU4).alloc (.cells (drwA zeroH 0) 25))
        have HF5 := hid (Blk.new (w := w4) (g := g2) (t := 25) (cs := drwA zeroH 0) hg2 rfl)
        clear hg2 hU4 HU3 HD3 HE3
        go_wp2_with (refine wpList_store_rowTo rfl 25 _ _ rfl rfl _ (drwA _ _) rfl rfl 25 _ (heap_alloc_new _ _) (sizeDrw _ _) (by rw [drwA_size]; rfl) (drwA_one _ _) ?_; rw [World.setRow_alloc_new]; rw [HG2.out]; generalize w4.alloc (.cells (drwA zeroH 0) 25) = w5 at *)
        go_wp2_with fail
        refine wp_region_up (by kernel_rfl) (by kernel_rfl) ?_
        repeat (first
          | (go_big_quiet_want; (refine quiet_load_row 25 _ (by rfl) o (by rfl) 25 D0 _ HD5.out.from Tryd.underlying25 rfl HSz.out ?_); try simp only [Act.put, List.setIfInBounds_toArray, List.set_cons_zero, List.set_cons_succ]; go_big_quiet_on)
          | go_big_quiet_step ((first
            | (go_at_call 14; exact Calls.up_of (MV.out _))
            | (go_at_call 20; exact Calls.up_of (MR.out _)))))
        refine wpQuiet_nil ?_
        rintro w6 ⟨⟨_, hU6⟩, rfl⟩
        try dsimp only
        have HD6 := hid (HD5.out.up hU6)
        have HE6 := hid (HE5.out.up hU6)
        have HF6 := hid (HF5.out.up hU6)
        have HU6 := hid (HU5.out.trans hU6)
        clear hU6 HD5 HE5 HF5 HU5
        have hq := HQn.out
        go_wp2_with fail
        refine wp_region_up (by kernel_rfl) (by kernel_rfl) ?_
        repeat (first
          | (go_big_quiet_want; (refine quiet_load_row 25 _ (by rfl) g1 (by rfl) 25 (drwA HN 0) _ HE6.out.from Tryd.underlying25 rfl (sizeDrw _ _) ?_); try simp only [Act.put, List.setIfInBounds_toArray, List.set_cons_zero, List.set_cons_succ]; go_big_quiet_on)
          | go_big_quiet_step ((first
            | (go_at_call 21; exact Calls.up_of (MRN.out _ (HU6.out.trans (UpFrom.up _)) (by omega))))))
        refine wpQuiet_nil ?_
        rintro w7 ⟨⟨_, hU7⟩, rfl⟩
        try dsimp only
        have HD7 := hid (HD6.out.up hU7)
        have HE7 := hid (HE6.out.up hU7)
        have HF7 := hid (HF6.out.up hU7)
        have HU7 := hid (HU6.out.trans hU7)
        clear hU7 HD6 HE6 HF6 HU6
        clear hq
        go_wp2_with (refine wpList_load_row rfl 25 _ rfl o rfl 25 D0 (0, 0) _ HD7.out Tryd.underlying25 rfl HSz.out ?_)
        refine (MR.out _).mono ?_
        rintro e w8 ⟨rfl, hU8⟩
        have HD8 := hid (HD7.out.up hU8)
        have HE8 := hid (HE7.out.up hU8)
        have HF8 := hid (HF7.out.up hU8)
        have HU8 := hid (HU7.out.trans hU8)
        clear hU8 HD7 HE7 HF7 HU7
        have hq := HQz.out
        go_wp2_with (refine wpList_load_row rfl 25 _ rfl g2 rfl 25 (drwA zeroH 0) (0, 0) _ HF8.out Tryd.underlying25 rfl (sizeDrw _ _) ?_)
        go_ret
        exact ⟨rfl, HU8.out⟩
      have hE : E = 0 := by rw [HE.out, if_pos rfl, if_pos hr]
      subst hE
      have HFr : Hid (FV = .tuple #[.agg (drwA HF 0), .int .i64 0]) := hid (by rw [HFv.out]; rfl)
      rw [HFr.out] at MF
      have d5 : decide ((k : Int) < 1) = false := by simp; omega
      have d6 : decide ((k : Int) > 100) = false := by simp; omega
      rw [← HK.out] at d4 d5 d6
      clear HFr HFv HE hr
      go_wp2_with fail
      refine (MN.out _ HU1.out).mono ?_
      rintro e w2 ⟨rfl, hU2⟩
      obtain ⟨g1, hg1⟩ : ∃ g, w2.heap.size = g := ⟨_, rfl⟩
      have HG1 := hid hg1
      have HD3 := hid ((HD1.out.up hU2).alloc (.cells (drwA HN 0) 25))
      have HU3 := hid ((HU1.out.trans hU2).alloc (.cells (drwA HN 0) 25))
      have HE3 := hid (Blk.new (w := w2) (g := g1) (t := 25) (cs := drwA HN 0) hg1 rfl)
      clear hg1 hU2 HU1 HD1
      go_wp2_with (first
        | (refine wpList_store_rowTo rfl 25 _ _ rfl rfl _ (drwA _ _) rfl rfl 25 _ (heap_alloc_new _ _) (sizeDrw _ _) (by rw [drwA_size]; rfl) (drwA_one _ _) ?_; rw [World.setRow_alloc_new]; rw [HG1.out]; generalize w2.alloc (.cells (drwA HN 0) 25) = w3 at *)
        | (refine wpList_load_row rfl 25 _ rfl o rfl 25 D0 (0, 0) _ HD3.out Tryd.underlying25 rfl HSz.out ?_))
      refine (MF.out _ HU3.out).mono ?_
      rintro e w4 ⟨rfl, hU4⟩
      obtain ⟨g2, hg2⟩ : ∃ g, w4.heap.size = g := ⟨_, rfl⟩
      have HG2 := hid hg2
      have HD5 := hid ((HD3.out.up hU4).alloc (.cells (drwA HF 0) 25))
      have HE5 := hid ((HE3.out.up hU4).alloc (.cells (drwA HF 0) 25))
      have HU5 := hid ((HU3.out.trans hU4).alloc (.cells (drwA HF 0) 25))
      have HF5 := hid (Blk.new (w := w4) (g := g2) (t := 25) (cs := drwA HF 0) hg2 rfl)
      clear hg2 hU4 HU3 HD3 HE3
      go_wp2_with (refine wpList_store_rowTo rfl 25 _ _ rfl rfl _ (drwA _ _) rfl rfl 25 _ (heap_alloc_new _ _) (sizeDrw _ _) (by rw [drwA_size]; rfl) (drwA_one _ _) ?_; rw [World.setRow_alloc_new]; rw [HG2.out]; generalize w4.alloc (.cells (drwA HF 0) 25) = w5 at *)
      go_wp2_with fail
      refine wp_region_up (by kernel_rfl) (by kernel_rfl) ?_
      repeat (first
        | (go_big_quiet_want; (refine quiet_load_row 25 _ (by rfl) o (by rfl) 25 D0 _ HD5.out.from Tryd.underlying25 rfl HSz.out ?_); try simp only [Act.put, List.setIfInBounds_toArray, List.set_cons_zero, List.set_cons_succ]; go_big_quiet_on)
        | go_big_quiet_step ((first
          | (go_at_call 14; exact Calls.up_of (MV.out _))
          | (go_at_call 20; exact Calls.up_of (MR.out _)))))
      refine wpQuiet_nil ?_
      rintro w6 ⟨⟨_, hU6⟩, rfl⟩
      try dsimp only
      have HD6 := hid (HD5.out.up hU6)
      have HE6 := hid (HE5.out.up hU6)
      have HF6 := hid (HF5.out.up hU6)
      have HU6 := hid (HU5.out.trans hU6)
      clear hU6 HD5 HE5 HF5 HU5
      have hq := HQn.out
      go_wp2_with fail
      refine wp_region_up (by kernel_rfl) (by kernel_rfl) ?_
      repeat (first
        | (go_big_quiet_want; (refine quiet_load_row 25 _ (by rfl) g1 (by rfl) 25 (drwA HN 0) _ HE6.out.from Tryd.underlying25 rfl (sizeDrw _ _) ?_); try simp only [Act.put, List.setIfInBounds_toArray, List.set_cons_zero, List.set_cons_succ]; go_big_quiet_on)
        | go_big_quiet_step ((first
          | (go_at_call 21; exact Calls.up_of (MRN.out _ (HU6.out.trans (UpFrom.up _)) (by omega))))))
      refine wpQuiet_nil ?_
      rintro w7 ⟨⟨_, hU7⟩, rfl⟩
      try dsimp only
      have HD7 := hid (HD6.out.up hU7)
      have HE7 := hid (HE6.out.up hU7)
      have HF7 := hid (HF6.out.up hU7)
      have HU7 := hid (HU6.out.trans hU7)
      clear hU7 HD6 HE6 HF6 HU6
      clear hq
      go_wp2_with (refine wpList_load_row rfl 25 _ rfl o rfl 25 D0 (0, 0) _ HD7.out Tryd.underlying25 rfl HSz.out ?_)
      refine (MR.out _).mono ?_
      rintro e w8 ⟨rfl, hU8⟩
      have HD8 := hid (HD7.out.up hU8)
      have HE8 := hid (HE7.out.up hU8)
      have HF8 := hid (HF7.out.up hU8)
      have HU8 := hid (HU7.out.trans hU8)
      clear hU8 HD7 HE7 HF7 HU7
      have hq := HQf.out
      go_wp2_with fail
      refine wp_region_up (by kernel_rfl) (by kernel_rfl) ?_
      repeat (first
        | (go_big_quiet_want; (refine quiet_load_row 25 _ (by rfl) o (by rfl) 25 D0 _ HD8.out.from Tryd.underlying25 rfl HSz.out ?_); try simp only [Act.put, List.setIfInBounds_toArray, List.set_cons_zero, List.set_cons_succ]; go_big_quiet_on)
        | (go_big_quiet_want; (refine quiet_load_row 25 _ (by rfl) g2 (by rfl) 25 (drwA HF 0) _ HF8.out.from Tryd.underlying25 rfl (sizeDrw _ _) ?_); try simp only [Act.put, List.setIfInBounds_toArray, List.set_cons_zero, List.set_cons_succ]; go_big_quiet_on)
        | go_big_quiet_step ((first
          | (go_at_call 22; exact Calls.up_of (MRF.out _ (by omega))))))
      refine wpQuiet_nil ?_
      rintro w9 ⟨⟨_, hU9⟩, rfl⟩
      try dsimp only
      have HD9 := hid (HD8.out.up hU9)
      have HE9 := hid (HE8.out.up hU9)
      have HF9 := hid (HF8.out.up hU9)
      have HU9 := hid (HU8.out.trans hU9)
      clear hU9 HD8 HE8 HF8 HU8
      go_wp2
      go_ret
      exact ⟨rfl, HU9.out⟩
  have d1 : decide ((n : Int) > 300) = true := by simp; omega
  by_cases h2 : n ≤ 16384
  case pos =>
    have d2 : decide ((n : Int) ≤ 16384) = true := by simp; omega
    clear h1 h2
    go_wp2
    go_ret
    exact ⟨rfl, HU1.out⟩
  have d2 : decide ((n : Int) ≤ 16384) = false := by simp; omega
  have d7 : decide ((n : Int) > 16384) = true := by simp; omega
  by_cases h3 : n > 16484
  case pos =>
    have d3 : decide ((n : Int) > 16484) = true := by simp; omega
    clear h1 h2 h3
    go_wp2
    go_ret
    exact ⟨rfl, HU1.out⟩
  have d3 : decide ((n : Int) > 16484) = false := by simp; omega
  have HNr : Hid (NV = .tuple #[.agg (drwA zeroH 0), .int .i64 5]) := hid (by rw [HNv.out, if_neg (by omega)])
  rw [HNr.out] at MN
  clear HNv HNr
  by_cases hks : k > 300
  case pos =>
    have d4 : decide ((k : Int) > 300) = true := by simp; omega
    clear hks
    rw [← HK.out] at d4
    go_wp2
    go_ret
    exact ⟨rfl, HU1.out⟩
  have d4 : decide ((k : Int) > 300) = false := by simp; omega
  cases B
  case false =>
    have hE : E = 1 := by rw [HE.out]; rfl
    subst hE
    have HFr : Hid (FV = .tuple #[.agg (drwA zeroH 0), .int .i64 1]) := hid (by rw [HFv.out]; rfl)
    rw [HFr.out] at MF
    rw [← HK.out] at d4
    clear HFr HFv HE
    go_wp2_with fail
    refine (MN.out _ HU1.out).mono ?_
    rintro e w2 ⟨rfl, hU2⟩
    obtain ⟨g1, hg1⟩ : ∃ g, w2.heap.size = g := ⟨_, rfl⟩
    have HG1 := hid hg1
    have HD3 := hid ((HD1.out.up hU2).alloc (.cells (drwA zeroH 0) 25))
    have HU3 := hid ((HU1.out.trans hU2).alloc (.cells (drwA zeroH 0) 25))
    have HE3 := hid (Blk.new (w := w2) (g := g1) (t := 25) (cs := drwA zeroH 0) hg1 rfl)
    clear hg1 hU2 HU1 HD1
    go_wp2_with (first
      | (refine wpList_store_rowTo rfl 25 _ _ rfl rfl _ (drwA _ _) rfl rfl 25 _ (heap_alloc_new _ _) (sizeDrw _ _) (by rw [drwA_size]; rfl) (drwA_one _ _) ?_; rw [World.setRow_alloc_new]; rw [HG1.out]; generalize w2.alloc (.cells (drwA zeroH 0) 25) = w3 at *)
      | (refine wpList_load_row rfl 25 _ rfl o rfl 25 D0 (0, 0) _ HD3.out Tryd.underlying25 rfl HSz.out ?_))
    refine (MF.out _ HU3.out).mono ?_
    rintro e w4 ⟨rfl, hU4⟩
    obtain ⟨g2, hg2⟩ : ∃ g, w4.heap.size = g := ⟨_, rfl⟩
    have HG2 := hid hg2
    have HD5 := hid ((HD3.out.up hU4).alloc (.cells (drwA zeroH 0) 25))
    have HE5 := hid ((HE3.out.up hU4).alloc (.cells (drwA zeroH 0) 25))
    have HU5 := hid ((HU3.out.trans hU4).alloc (.cells (drwA zeroH 0) 25))
    have HF5 := hid (Blk.new (w := w4) (g := g2) (t := 25) (cs := drwA zeroH 0) hg2 rfl)
    clear hg2 hU4 HU3 HD3 HE3
    go_wp2_with (refine wpList_store_rowTo rfl 25 _ _ rfl rfl _ (drwA _ _) rfl rfl 25 _ (heap_alloc_new _ _) (sizeDrw _ _) (by rw [drwA_size]; rfl) (drwA_one _ _) ?_; rw [World.setRow_alloc_new]; rw [HG2.out]; generalize w4.alloc (.cells (drwA zeroH 0) 25) = w5 at *)
    go_wp2_with fail
    refine wp_region_up (by kernel_rfl) (by kernel_rfl) ?_
    repeat (first
      | (go_big_quiet_want; (refine quiet_load_row 25 _ (by rfl) o (by rfl) 25 D0 _ HD5.out.from Tryd.underlying25 rfl HSz.out ?_); try simp only [Act.put, List.setIfInBounds_toArray, List.set_cons_zero, List.set_cons_succ]; go_big_quiet_on)
      | go_big_quiet_step ((first
        | (go_at_call 14; exact Calls.up_of (MV.out _))
        | (go_at_call 20; exact Calls.up_of (MR.out _)))))
    refine wpQuiet_nil ?_
    rintro w6 ⟨⟨_, hU6⟩, rfl⟩
    try dsimp only
    have HD6 := hid (HD5.out.up hU6)
    have HE6 := hid (HE5.out.up hU6)
    have HF6 := hid (HF5.out.up hU6)
    have HU6 := hid (HU5.out.trans hU6)
    clear hU6 HD5 HE5 HF5 HU5
    have hq := HQz.out
    go_wp2_with (first
      | (refine wpList_load_row rfl 25 _ rfl g1 rfl 25 (drwA zeroH 0) (0, 0) _ HE6.out Tryd.underlying25 rfl (sizeDrw _ _) ?_)
      | (refine wpList_load_row rfl 25 _ rfl o rfl 25 D0 (0, 0) _ HD6.out Tryd.underlying25 rfl HSz.out ?_))
    refine (MR.out _).mono ?_
    rintro e w8 ⟨rfl, hU8⟩
    have HD8 := hid (HD6.out.up hU8)
    have HE8 := hid (HE6.out.up hU8)
    have HF8 := hid (HF6.out.up hU8)
    have HU8 := hid (HU6.out.trans hU8)
    clear hU8 HD6 HE6 HF6 HU6
    go_wp2_with (refine wpList_load_row rfl 25 _ rfl g2 rfl 25 (drwA zeroH 0) (0, 0) _ HF8.out Tryd.underlying25 rfl (sizeDrw _ _) ?_)
    go_ret
    exact ⟨rfl, HU8.out⟩
  case true =>
    by_cases hr : 1 ≤ (k : Int) ∧ (k : Int) ≤ 100
    case neg =>
      have hE : E = 2 := by rw [HE.out, if_pos rfl, if_neg hr]
      subst hE
      have HFr : Hid (FV = .tuple #[.agg (drwA zeroH 0), .int .i64 2]) := hid (by rw [HFv.out]; rfl)
      rw [HFr.out] at MF
      clear HFr HFv HE
      by_cases hk0 : k < 1
      case pos =>
        have d5 : decide ((k : Int) < 1) = true := by simp; omega
        rw [← HK.out] at d4 d5
        clear hr hk0
        go_wp2_with fail
        refine (MN.out _ HU1.out).mono ?_
        rintro e w2 ⟨rfl, hU2⟩
        obtain ⟨g1, hg1⟩ : ∃ g, w2.heap.size = g := ⟨_, rfl⟩
        have HG1 := hid hg1
        have HD3 := hid ((HD1.out.up hU2).alloc (.cells (drwA zeroH 0) 25))
        have HU3 := hid ((HU1.out.trans hU2).alloc (.cells (drwA zeroH 0) 25))
        have HE3 := hid (Blk.new (w := w2) (g := g1) (t := 25) (cs := drwA zeroH 0) hg1 rfl)
        clear hg1 hU2 HU1 HD1
        go_wp2_with (first
          | (refine wpList_store_rowTo rfl 25 _ _ rfl rfl _ (drwA _ _) rfl rfl 25 _ (heap_alloc_new _ _) (sizeDrw _ _) (by rw [drwA_size]; rfl) (drwA_one _ _) ?_; rw [World.setRow_alloc_new]; rw [HG1.out]; generalize w2.alloc (.cells (drwA zeroH 0) 25) = w3 at *)
          | (refine wpList_load_row rfl 25 _ rfl o rfl 25 D0 (0, 0) _ HD3.out Tryd.underlying25 rfl HSz.out ?_))
        refine (MF.out _ HU3.out).mono ?_
        rintro e w4 ⟨rfl, hU4⟩
        obtain ⟨g2, hg2⟩ : ∃ g, w4.heap.size = g := ⟨_, rfl⟩
        have HG2 := hid hg2
        have HD5 := hid ((HD3.out.up hU4).alloc (.cells (drwA zeroH 0) 25))
        have HE5 := hid ((HE3.out.up hU4).alloc (.cells (drwA zeroH 0) 25))
        have HU5 := hid ((HU3.out.trans hU4).alloc (.cells (drwA zeroH 0) 25))
        have HF5 := hid (Blk.new (w := w4) (g := g2) (t := 25) (cs := drwA zeroH 0) hg2 rfl)
        clear hg2 hU4 HU3 HD3 HE3
        go_wp2_with (refine wpList_store_rowTo rfl 25 _ _ rfl rfl _ (drwA _ _) rfl rfl 25 _ (heap_alloc_new _ _) (sizeDrw _ _) (by rw [drwA_size]; rfl) (drwA_one _ _) ?_; rw [World.setRow_alloc_new]; rw [HG2.out]; generalize w4.alloc (.cells (drwA zeroH 0) 25) = w5 at *)
        go_wp2_with fail
        refine wp_region_up (by kernel_rfl) (by kernel_rfl) ?_
        repeat (first
          | (go_big_quiet_want; (refine quiet_load_row 25 _ (by rfl) o (by rfl) 25 D0 _ HD5.out.from Tryd.underlying25 rfl HSz.out ?_); try simp only [Act.put, List.setIfInBounds_toArray, List.set_cons_zero, List.set_cons_succ]; go_big_quiet_on)
          | go_big_quiet_step ((first
            | (go_at_call 14; exact Calls.up_of (MV.out _))
            | (go_at_call 20; exact Calls.up_of (MR.out _)))))
        refine wpQuiet_nil ?_
        rintro w6 ⟨⟨_, hU6⟩, rfl⟩
        try dsimp only
        have HD6 := hid (HD5.out.up hU6)
        have HE6 := hid (HE5.out.up hU6)
        have HF6 := hid (HF5.out.up hU6)
        have HU6 := hid (HU5.out.trans hU6)
        clear hU6 HD5 HE5 HF5 HU5
        have hq := HQz.out
        go_wp2_with (first
          | (refine wpList_load_row rfl 25 _ rfl g1 rfl 25 (drwA zeroH 0) (0, 0) _ HE6.out Tryd.underlying25 rfl (sizeDrw _ _) ?_)
          | (refine wpList_load_row rfl 25 _ rfl o rfl 25 D0 (0, 0) _ HD6.out Tryd.underlying25 rfl HSz.out ?_))
        refine (MR.out _).mono ?_
        rintro e w8 ⟨rfl, hU8⟩
        have HD8 := hid (HD6.out.up hU8)
        have HE8 := hid (HE6.out.up hU8)
        have HF8 := hid (HF6.out.up hU8)
        have HU8 := hid (HU6.out.trans hU8)
        clear hU8 HD6 HE6 HF6 HU6
        go_wp2_with (refine wpList_load_row rfl 25 _ rfl g2 rfl 25 (drwA zeroH 0) (0, 0) _ HF8.out Tryd.underlying25 rfl (sizeDrw _ _) ?_)
        go_ret
        exact ⟨rfl, HU8.out⟩
      have d5 : decide ((k : Int) < 1) = false := by simp; omega
      have d6 : decide ((k : Int) > 100) = true := by simp; omega
      rw [← HK.out] at d4 d5 d6
      clear hr hk0
      go_wp2_with fail
      refine (MN.out _ HU1.out).mono ?_
      rintro e w2 ⟨rfl, hU2⟩
      obtain ⟨g1, hg1⟩ : ∃ g, w2.heap.size = g := ⟨_, rfl⟩
      have HG1 := hid hg1
      have HD3 := hid ((HD1.out.up hU2).alloc (.cells (drwA zeroH 0) 25))
      have HU3 := hid ((HU1.out.trans hU2).alloc (.cells (drwA zeroH 0) 25))
      have HE3 := hid (Blk.new (w := w2) (g := g1) (t := 25) (cs := drwA zeroH 0) hg1 rfl)
      clear hg1 hU2 HU1 HD1
      go_wp2_with (first
        | (refine wpList_store_rowTo rfl 25 _ _ rfl rfl _ (drwA _ _) rfl rfl 25 _ (heap_alloc_new _ _) (sizeDrw _ _) (by rw [drwA_size]; rfl) (drwA_one _ _) ?_; rw [World.setRow_alloc_new]; rw [HG1.out]; generalize w2.alloc (.cells (drwA zeroH 0) 25) = w3 at *)
        | (refine wpList_load_row rfl 25 _ rfl o rfl 25 D0 (0, 0) _ HD3.out Tryd.underlying25 rfl HSz.out ?_))
      refine (MF.out _ HU3.out).mono ?_
      rintro e w4 ⟨rfl, hU4⟩
      obtain ⟨g2, hg2⟩ : ∃ g, w4.heap.size = g := ⟨_, rfl⟩
      have HG2 := hid hg2
      have HD5 := hid ((HD3.out.up hU4).alloc (.cells (drwA zeroH 0) 25))
      have HE5 := hid ((HE3.out.up hU4).alloc (.cells (drwA zeroH 0) 25))
      have HU5 := hid ((HU3.out.trans hU4).alloc (.cells (drwA zeroH 0) 25))
      have HF5 := hid (Blk.new (w := w4) (g := g2) (t := 25) (cs := drwA zeroH 0) hg2 rfl)
      clear hg2 hU4 HU3 HD3 HE3
      go_wp2_with (refine wpList_store_rowTo rfl 25 _ _ rfl rfl _ (drwA _ _) rfl rfl 25 _ (heap_alloc_new _ _) (sizeDrw _ _) (by rw [drwA_size]; rfl) (drwA_one _ _) ?_; rw [World.setRow_alloc_new]; rw [HG2.out]; generalize w4.alloc (.cells (drwA zeroH 0) 25) = w5 at *)
      go_wp2_with fail
      refine wp_region_up (by kernel_rfl) (by kernel_rfl) ?_
      repeat (first
        | (go_big_quiet_want; (refine quiet_load_row 25 _ (by rfl) o (by rfl) 25 D0 _ HD5.out.from Tryd.underlying25 rfl HSz.out ?_); try simp only [Act.put, List.setIfInBounds_toArray, List.set_cons_zero, List.set_cons_succ]; go_big_quiet_on)
        | go_big_quiet_step ((first
          | (go_at_call 14; exact Calls.up_of (MV.out _))
          | (go_at_call 20; exact Calls.up_of (MR.out _)))))
      refine wpQuiet_nil ?_
      rintro w6 ⟨⟨_, hU6⟩, rfl⟩
      try dsimp only
      have HD6 := hid (HD5.out.up hU6)
      have HE6 := hid (HE5.out.up hU6)
      have HF6 := hid (HF5.out.up hU6)
      have HU6 := hid (HU5.out.trans hU6)
      clear hU6 HD5 HE5 HF5 HU5
      have hq := HQz.out
      go_wp2_with (first
        | (refine wpList_load_row rfl 25 _ rfl g1 rfl 25 (drwA zeroH 0) (0, 0) _ HE6.out Tryd.underlying25 rfl (sizeDrw _ _) ?_)
        | (refine wpList_load_row rfl 25 _ rfl o rfl 25 D0 (0, 0) _ HD6.out Tryd.underlying25 rfl HSz.out ?_))
      refine (MR.out _).mono ?_
      rintro e w8 ⟨rfl, hU8⟩
      have HD8 := hid (HD6.out.up hU8)
      have HE8 := hid (HE6.out.up hU8)
      have HF8 := hid (HF6.out.up hU8)
      have HU8 := hid (HU6.out.trans hU8)
      clear hU8 HD6 HE6 HF6 HU6
      go_wp2_with (refine wpList_load_row rfl 25 _ rfl g2 rfl 25 (drwA zeroH 0) (0, 0) _ HF8.out Tryd.underlying25 rfl (sizeDrw _ _) ?_)
      go_ret
      exact ⟨rfl, HU8.out⟩
    have hE : E = 0 := by rw [HE.out, if_pos rfl, if_pos hr]
    subst hE
    have HFr : Hid (FV = .tuple #[.agg (drwA HF 0), .int .i64 0]) := hid (by rw [HFv.out]; rfl)
    rw [HFr.out] at MF
    have d5 : decide ((k : Int) < 1) = false := by simp; omega
    have d6 : decide ((k : Int) > 100) = false := by simp; omega
    rw [← HK.out] at d4 d5 d6
    clear HFr HFv HE hr
    go_wp2_with fail
    refine (MN.out _ HU1.out).mono ?_
    rintro e w2 ⟨rfl, hU2⟩
    obtain ⟨g1, hg1⟩ : ∃ g, w2.heap.size = g := ⟨_, rfl⟩
    have HG1 := hid hg1
    have HD3 := hid ((HD1.out.up hU2).alloc (.cells (drwA zeroH 0) 25))
    have HU3 := hid ((HU1.out.trans hU2).alloc (.cells (drwA zeroH 0) 25))
    have HE3 := hid (Blk.new (w := w2) (g := g1) (t := 25) (cs := drwA zeroH 0) hg1 rfl)
    clear hg1 hU2 HU1 HD1
    go_wp2_with (first
      | (refine wpList_store_rowTo rfl 25 _ _ rfl rfl _ (drwA _ _) rfl rfl 25 _ (heap_alloc_new _ _) (sizeDrw _ _) (by rw [drwA_size]; rfl) (drwA_one _ _) ?_; rw [World.setRow_alloc_new]; rw [HG1.out]; generalize w2.alloc (.cells (drwA zeroH 0) 25) = w3 at *)
      | (refine wpList_load_row rfl 25 _ rfl o rfl 25 D0 (0, 0) _ HD3.out Tryd.underlying25 rfl HSz.out ?_))
    refine (MF.out _ HU3.out).mono ?_
    rintro e w4 ⟨rfl, hU4⟩
    obtain ⟨g2, hg2⟩ : ∃ g, w4.heap.size = g := ⟨_, rfl⟩
    have HG2 := hid hg2
    have HD5 := hid ((HD3.out.up hU4).alloc (.cells (drwA HF 0) 25))
    have HE5 := hid ((HE3.out.up hU4).alloc (.cells (drwA HF 0) 25))
    have HU5 := hid ((HU3.out.trans hU4).alloc (.cells (drwA HF 0) 25))
    have HF5 := hid (Blk.new (w := w4) (g := g2) (t := 25) (cs := drwA HF 0) hg2 rfl)
    clear hg2 hU4 HU3 HD3 HE3
    go_wp2_with (refine wpList_store_rowTo rfl 25 _ _ rfl rfl _ (drwA _ _) rfl rfl 25 _ (heap_alloc_new _ _) (sizeDrw _ _) (by rw [drwA_size]; rfl) (drwA_one _ _) ?_; rw [World.setRow_alloc_new]; rw [HG2.out]; generalize w4.alloc (.cells (drwA HF 0) 25) = w5 at *)
    go_wp2_with fail
    refine wp_region_up (by kernel_rfl) (by kernel_rfl) ?_
    repeat (first
      | (go_big_quiet_want; (refine quiet_load_row 25 _ (by rfl) o (by rfl) 25 D0 _ HD5.out.from Tryd.underlying25 rfl HSz.out ?_); try simp only [Act.put, List.setIfInBounds_toArray, List.set_cons_zero, List.set_cons_succ]; go_big_quiet_on)
      | go_big_quiet_step ((first
        | (go_at_call 14; exact Calls.up_of (MV.out _))
        | (go_at_call 20; exact Calls.up_of (MR.out _)))))
    refine wpQuiet_nil ?_
    rintro w6 ⟨⟨_, hU6⟩, rfl⟩
    try dsimp only
    have HD6 := hid (HD5.out.up hU6)
    have HE6 := hid (HE5.out.up hU6)
    have HF6 := hid (HF5.out.up hU6)
    have HU6 := hid (HU5.out.trans hU6)
    clear hU6 HD5 HE5 HF5 HU5
    have hq := HQz.out
    go_wp2_with (first
      | (refine wpList_load_row rfl 25 _ rfl g1 rfl 25 (drwA zeroH 0) (0, 0) _ HE6.out Tryd.underlying25 rfl (sizeDrw _ _) ?_)
      | (refine wpList_load_row rfl 25 _ rfl o rfl 25 D0 (0, 0) _ HD6.out Tryd.underlying25 rfl HSz.out ?_))
    refine (MR.out _).mono ?_
    rintro e w8 ⟨rfl, hU8⟩
    have HD8 := hid (HD6.out.up hU8)
    have HE8 := hid (HE6.out.up hU8)
    have HF8 := hid (HF6.out.up hU8)
    have HU8 := hid (HU6.out.trans hU8)
    clear hU8 HD6 HE6 HF6 HU6
    clear hq
    have hq := HQf.out
    go_wp2_with fail
    refine wp_region_up (by kernel_rfl) (by kernel_rfl) ?_
    repeat (first
      | (go_big_quiet_want; (refine quiet_load_row 25 _ (by rfl) o (by rfl) 25 D0 _ HD8.out.from Tryd.underlying25 rfl HSz.out ?_); try simp only [Act.put, List.setIfInBounds_toArray, List.set_cons_zero, List.set_cons_succ]; go_big_quiet_on)
      | (go_big_quiet_want; (refine quiet_load_row 25 _ (by rfl) g2 (by rfl) 25 (drwA HF 0) _ HF8.out.from Tryd.underlying25 rfl (sizeDrw _ _) ?_); try simp only [Act.put, List.setIfInBounds_toArray, List.set_cons_zero, List.set_cons_succ]; go_big_quiet_on)
      | go_big_quiet_step ((first
        | (go_at_call 22; exact Calls.up_of (MRF.out _ (by omega))))))
    refine wpQuiet_nil ?_
    rintro w9 ⟨⟨_, hU9⟩, rfl⟩
    try dsimp only
    have HD9 := hid (HD8.out.up hU9)
    have HE9 := hid (HE8.out.up hU9)
    have HF9 := hid (HF8.out.up hU9)
    have HU9 := hid (HU8.out.trans hU9)
    clear hU9 HD8 HE8 HF8 HU8
    go_wp2
    go_ret
    exact ⟨rfl, HU9.out⟩
end Go.Proofs.YtdlcmpbpdbpanaaDoor
namespace Go.Proofs.YtdlcmpbpdbpanaaDoor.lawDrawForks
open Go.Proofs.YtdlcmpbpdbpanaaDoor Go.ChangeShapes Go.WideShapes Go.ChangeAt Go.RowKit Go.Sp

set_option maxRecDepth 100000 in
theorem contract (H : Type) (enc : TypeId × Value → H) (W : World) (base : Nat) (args : Array Value) (ds gs : List (DataW H)) (before : List MemPlace)
    (hval : ∀ (j : Nat) t v, Tryd.f4.params[j]? = some t → args[j]? = some v → Value.okWide Tryd.prog W .any base t v)
    (hW : DataW.Whole enc Tryd.prog Tryd.f4.params.toList Rows.drawForksSpec.vars false W args.toList ds gs before) (hL : laidMetH Tryd.prog Rows.drawForksRow.laid W) :
    Calls Tryd.prog 4 args W fun e W' => ∃ v, e = .returned v ∧ Rows.drawForksSpec.post enc Tryd.prog Tryd.f4 false true false false W args v W' := by
  have hS := tabS_of_sha hL
  have hW' := hW
  obtain ⟨p, q, hA0, hV, rfl, hfz, hnd⟩ := hW
  have hA : DataW.TrodAll enc Tryd.prog W 0 (fun _ => true) true Tryd.f4.params.toList args.toList ds p := hA0
  rw [Tryd.params4] at hA hval
  obtain ⟨v0, vs0, d0, ds0, p0, q0, hargs, rfl, rfl, h0, r0⟩ := trodAll_cons hA
  obtain ⟨v1, vs1, d1, ds1, p1, q1, rfl, rfl, rfl, h1, r1⟩ := trodAll_cons r0
  obtain ⟨v2, vs2, d2, ds2, p2, q2, rfl, rfl, rfl, h2, r2⟩ := trodAll_cons r1
  obtain ⟨rfl, rfl, rfl⟩ := trodAll_nil r2
  obtain rfl : args = #[v0, v1, v2] := by cases args; simp_all
  obtain ⟨rfl, rfl⟩ := trodVars_none hV
  obtain ⟨xs0, hs0, bs0⟩ := open_bytes (hval 0 31 v0 rfl rfl) h0
  obtain ⟨sd1, ct1, rfl, hd1, bc1, cc1⟩ := open_draw (hval 1 25 v1 rfl rfl) h1
  obtain ⟨x2, rfl⟩ := open_text (hval 2 9 v2 rfl rfl) h2
  refine (DrawForks_walk sd1 ct1 v0 xs0 x2 W hS hd1 hs0 bs0).mono fun e W' ⟨he, hU⟩ => ?_
  exact ⟨_, he, law_shut Tryd.underlying4 (by kernel_rfl) rfl rfl laidOut (by kernel_rfl) hW' hU⟩

theorem laid_met (os : Os) : laidMet Tryd.prog Rows.drawForksRow.laid ((World.laidAll Tryd.prog os laidSha).forCall (fun _ _ => 0) ⟨#[], #[.slice none 0 0, drw zeroH 0, .string ⟨#[]⟩], []⟩).memory :=
  laidMet_laidAll _ (by kernel_rfl) (by kernel_rfl)
theorem reads (os : Os) {H : Type} (enc : TypeId × Value → H) : ∃ places, DataW.whole enc Tryd.prog ((World.laidAll Tryd.prog os laidSha).forCall (fun _ _ => 0) ⟨#[], #[.slice none 0 0, drw zeroH 0, .string ⟨#[]⟩], []⟩).memory Tryd.f4.params.toList Rows.drawForksSpec.vars false (#[.slice none 0 0, drw zeroH 0, .string ⟨#[]⟩] : Array Value).toList 8 = some ([.nil, .agg [.agg [.lit (.int .u8 0), .lit (.int .u8 0), .lit (.int .u8 0), .lit (.int .u8 0), .lit (.int .u8 0), .lit (.int .u8 0), .lit (.int .u8 0), .lit (.int .u8 0), .lit (.int .u8 0), .lit (.int .u8 0), .lit (.int .u8 0), .lit (.int .u8 0), .lit (.int .u8 0), .lit (.int .u8 0), .lit (.int .u8 0), .lit (.int .u8 0), .lit (.int .u8 0), .lit (.int .u8 0), .lit (.int .u8 0), .lit (.int .u8 0), .lit (.int .u8 0), .lit (.int .u8 0), .lit (.int .u8 0), .lit (.int .u8 0), .lit (.int .u8 0), .lit (.int .u8 0), .lit (.int .u8 0), .lit (.int .u8 0), .lit (.int .u8 0), .lit (.int .u8 0), .lit (.int .u8 0), .lit (.int .u8 0)], .lit (.int .i64 0)], .lit (.string [])], [], places) :=
  ⟨[], by kernel_rfl⟩

set_option maxRecDepth 100000 in
theorem lifted (os : Os) (started : os.Started) (H : Type) (enc : TypeId × Value → H) (F : Stop.Interp) :
    ReturnsInHanded {} Tryd.checked os 4 .any ((OpenSpec.ofChange Rows.drawForksSpec).preRow enc Tryd.prog Tryd.f4 Rows.drawForksRow.domain false Rows.drawForksRow.laid) (((OpenSpec.ofChange Rows.drawForksSpec).at F).post enc Tryd.prog Tryd.f4 false true false false) := by
  obtain ⟨places, hx⟩ := reads os enc
  refine returnsInHanded_of_row (C := Tryd.checked) (s := OpenSpec.ofChange Rows.drawForksSpec) own started (by kernel_rfl) Tryd.func4
    (witness_row_at (enc := enc) (C := Tryd.checked) false (World.laidAll Tryd.prog os laidSha) #[.slice none 0 0, drw zeroH 0, .string ⟨#[]⟩] (World.laidAll_os _ _ _) (by kernel_rfl) (by kernel_rfl) (by kernel_rfl)
      (OpenSpec.preRow_of_cond 8 hx (by kernel_rfl) (fun k hk => by cases hk) (by kernel_rfl) (laid_met os))) ?_
  intro W base args ds gs before hval hW _ _ _ hL _ _
  exact contract H enc W base args ds gs before hval hW hL

theorem said : Rows.DrawForksSaid :=
  OpenClaim.holds_of_cond 4 Tryd.f4 rfl rfl rfl rfl rfl rfl rfl ⟨rfl, rfl, rfl, rfl, rfl⟩ rfl rfl rfl rfl rfl (by kernel_rfl) Tryd.func4 (by kernel_rfl)
    (of_decide_eq_true (by kernel_rfl)) (by unfold Func.isWrapper; first | (rw [if_pos (by decide +kernel)]; kernel_rfl) | (rw [if_neg (by decide +kernel)]; exact ⟨rfl, rfl⟩))
    (fun os started H enc _ F => by rw [OpenClaim.pre_eq_preRow]; exact lifted os started H enc F)

theorem plain (f : FuncId) (fn : Func) (hf : Tryd.pinned.checked.prog.funcNamed "specie/specielaw09.DrawForks" = some f) (hfn : Tryd.pinned.checked.prog.funcs[f]? = some fn) :
    false = Tryd.pinned.checked.prog.looks [] ∧ ∀ (j : Nat) t, fn.params[j]? = some t → Tryd.pinned.checked.prog.wantsStandIn t = false := by
  obtain rfl : f = 4 := Option.some.inj ((show Tryd.prog.funcNamed "specie/specielaw09.DrawForks" = some 4 by kernel_rfl).symm.trans hf) |>.symm
  obtain rfl : fn = Tryd.f4 := (Option.some.inj (Tryd.func4.symm.trans hfn)).symm
  refine ⟨by kernel_rfl, fun j t ht => ?_⟩
  have hall : Tryd.f4.params.toList.all (fun t => !Tryd.prog.wantsStandIn t) = true := by kernel_rfl
  have := List.all_eq_true.1 hall t (by rw [← Array.mem_toList_iff.symm]; exact Array.mem_of_getElem? ht)
  exact (by simpa using this : Tryd.prog.wantsStandIn t = false)

/-- The card. -/
theorem card : Rows.DrawForksCardSaid :=
  Claim7.holds_tied_plain_at .later [] _ _ _ _ said (fun _ h => by cases h) (by kernel_rfl) (fun _ h => by cases h) drawForks_row_tie rfl ⟨rfl, rfl⟩ (by kernel_rfl) rfl plain (by kernel_rfl)
end Go.Proofs.YtdlcmpbpdbpanaaDoor.lawDrawForks
