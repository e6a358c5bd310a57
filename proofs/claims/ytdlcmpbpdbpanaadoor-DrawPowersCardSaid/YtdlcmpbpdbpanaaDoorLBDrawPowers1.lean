/- For a power of 2 each number takes one block, and a number other than 0 is one: specielaw09.DrawPowers returns true. For every input; the tables of package digest as the program's text lays them. DrawPowers: the walk. The examples of layer 9. Sources and digests compared with themselves. Plain laws of numbers below a power of 2, of 8 bytes, and of numbers other than 0. -/
import Derived.Test.YtdlcmpbpdbpanaaDoorMB19
import Derived.Test.YtdlcmpbpdbpanaaDoorMB18
import Derived.Test.YtdlcmpbpdbpanaaDoorMB31
import Derived.Test.YtdlcmpbpdbpanaaDoorMB23
import Derived.Test.YtdlcmpbpdbpanaaDoorMB20
import Derived.Test.YtdlcmpbpdbpanaaDoorMB30
import Derived.Laws.StructEq
import Derived.DeepKeys
import Derived.Lib.SmallJoins
import Derived.Lay
namespace Go.Proofs.YtdlcmpbpdbpanaaDoor
open Go.RowKit Go.Sp
theorem pow60 {k : Nat} (hk : k ≤ 60) : (1 : Int) ≤ 2 ^ k ∧ (2 : Int) ^ k ≤ 1152921504606846976 := by
  have h1 : (0 : Int) < 2 ^ k := Int.pow_pos (by decide)
  have h2 : (2 : Nat) ^ k ≤ 2 ^ 60 := Nat.pow_le_pow_right (by decide) hk
  have h3 : ((2 ^ k : Nat) : Int) = (2 : Int) ^ k := by simp
  omega
theorem nxt_pow {h : Nat → Int} {c : Int} {k : Nat} (h0 : 0 ≤ c) (h1 : c ≤ 549755813888) (hk : k ≤ 60) : nxtV h c (2 ^ k) = .tuple #[drw h (c + 1), .int .i64 (firK (shaB (posL h c)) 8 % 2 ^ k), .int .i64 0] := by
  obtain ⟨p0, p1⟩ := pow60 hk
  rw [nxtV, if_pos (chk_iff.2 ⟨⟨h0, by omega⟩, p0, by omega⟩), numT_pow (by omega) (by omega)]
  rfl
theorem byt_eight {h : Nat → Int} {c : Int} (h0 : 0 ≤ c) (h1 : c ≤ 549755813888) : bytE c 8 = 0 ∧ bytD h c 8 = drw h (c + 1) ∧ bytL h c 8 = (hList (shaB (posL h c))).take 8 := by
  have hn : needB 8 = 1 := by decide
  have he : bytE c 8 = 0 := by
    rw [bytE, if_pos (chk_iff.2 ⟨⟨h0, by omega⟩, by omega, by omega⟩), hn, if_pos (by omega)]
  refine ⟨he, by rw [bytD, if_pos he, hn], ?_⟩
  rw [bytL, if_pos he, hn]
  show (([] : List Int) ++ hList (shaB (posL h (c + (0 : Nat))))).take 8 = _
  simp
theorem nzn_low {h : Nat → Int} {c q : Int} (h0 : 0 ≤ c) (h1 : c ≤ 549755813888) : (∃ E, nznV h c q = .tuple #[drw zeroH 0, .int .i64 0, .int .i64 E] ∧ E ≠ 0 ∧ (q < 2 ∨ 2305843009213693952 ≤ q)) ∨ ∃ C Z, nznV h c q = .tuple #[drw h C, .int .i64 Z, .int .i64 0] ∧ c < C ∧ 1 ≤ Z ∧ Z < q := by
  by_cases hk : chkE c q 2 2305843009213693951 = 0
  · obtain ⟨_, q2, q3⟩ := chk_iff.1 hk
    obtain ⟨f0, ⟨z1, z2⟩, lt⟩ := nzT_low (h := h) (q := q) q2 256 c h0 (by omega)
    refine .inr ⟨(nzT h q 256 c).2.1, (nzT h q 256 c).1, ?_, lt (by omega), z1, z2⟩
    rw [nznV, if_pos hk, f0]
    rfl
  · refine .inl ⟨_, by rw [nznV, if_neg hk], hk, ?_⟩
    by_cases h2 : 2 ≤ q ∧ q ≤ 2305843009213693951
    · exact absurd (chk_iff.2 ⟨⟨h0, by omega⟩, h2⟩) hk
    · omega
/-- The shift of 1, both ways. -/
theorem shl_i {k : Nat} (hk : k ≤ 60) : IntKind.i64.wrap (2 ^ k) = 2 ^ k := by
  obtain ⟨p0, p1⟩ := pow60 hk
  rw [IntKind.wrap_i64]
  omega
theorem shl_u {k : Nat} (hk : k ≤ 60) : IntKind.u64.wrap (2 ^ k) = 2 ^ k := by
  obtain ⟨p0, p1⟩ := pow60 hk
  rw [IntKind.wrap_u64]
  omega
/-- A load in a row, at an operation with a guard that says yes. -/
theorem wpList_load_midG {P : Program} {ops : Array Oper} {rest : List Oper} {o : Oper} {a : Act} {w : World} {Q : Exit → Act → World → Prop} (hw : Region.wanted o (yielded ops a.tmps) = true) (ty : TypeId) (x : Operand) (ho : o.op = .load ty x)
    (b i : Nat) (hx : a.eval x = .pointer (some ⟨b, i, none⟩)) (cs : List Value) (d : TypeDesc) (hc : w.rangeAt b i cs)
    (hu : P.underlying ty = some d) (hd : d.isRow = true) (hi : (P.info? ty).map (·.size) = some cs.length)
    (h : wpList P ops Q rest (a.put o.dst (.agg cs.toArray)) w) : wpList P ops Q (o :: rest) a w :=
  wpList_step fun K hK => by
    rw [if_pos hw]
    exact wp_load_mid ty x ho b i hx cs d hc hu hd hi (hK _ _ h)
theorem drw_hash {w : World} {b : Nat} {t : TypeId} {h : Nat → Int} {c : Int} (hb : Blk w b t (drwA h c)) : w.rangeAt b 0 (arrK .u8 h 32).toList := fun j v hv => by
  rw [Nat.zero_add, hb.read]
  have hj : j < 32 := by
    have := (List.getElem?_eq_some_iff.1 hv).1
    rw [Array.length_toList, arrK_size] at this
    exact this
  rw [drwA, Array.getElem?_push, if_neg (by rw [arrK_size]; omega), ← hv, Array.getElem?_toList]
theorem sizeHs (h : Nat → Int) : (Tryd.prog.info? 23).map (·.size) = some (arrK .u8 h 32).toList.length := by rw [Array.length_toList, arrK_size]; kernel_rfl
end Go.Proofs.YtdlcmpbpdbpanaaDoor
namespace Go.Proofs.YtdlcmpbpdbpanaaDoor
open Go.RowKit Go.Sp
set_option maxHeartbeats 4000000
set_option maxRecDepth 20000

theorem mapM_each {α β : Type} {f : α → Option β} {g : α → β} : ∀ (l : List α), (∀ x ∈ l, f x = some (g x)) → l.mapM f = some (l.map g)
  | [], _ => rfl
  | x :: l, h => by
    rw [List.mapM_cons, h x (by simp), mapM_each l (fun y hy => h y (by simp [hy]))]
    rfl
theorem hash_lits {h : Nat → Int} (hB : Byt h) (d : Nat) : Tryd.prog.keyLits (d + 2) 23 (arrK .u8 h 32).toList = some ((List.range 32).map fun i => Lit.int .u8 (h i)) := by
  unfold Program.keyLits
  simp only [Tryd.underlying23]
  have hl : (arrK .u8 h 32).toList.length = Tryd.prog.cellsOf 23 := by rw [Array.length_toList, arrK_size]; kernel_rfl
  have hc : Tryd.prog.cellsOf 5 = 1 := by kernel_rfl
  rw [if_pos hl, hc]
  rw [mapM_each (g := fun i => [Lit.int .u8 (h i)]) (List.range 32) (fun i hi => by
    have hi : i < 32 := List.mem_range.1 hi
    have e : ((arrK .u8 h 32).toList.drop (i * 1)).take 1 = [.int .u8 (h i)] := by
      rw [Nat.mul_one, List.drop_eq_getElem_cons (by rw [Array.length_toList, arrK_size]; exact hi), List.take_succ_cons, List.take_zero]
      congr 1
      have := arrK_get (k := .u8) (f := h) (n := 32) hi
      simpa [Array.getElem?_eq_some_iff, arrK_size, hi] using this
    rw [e]
    unfold Program.keyLits
    simp only [Tryd.underlying5]
    rw [if_pos ⟨trivial, by
      obtain ⟨h0, h1⟩ := hB i
      have a : IntKind.u8.min = 0 := by decide
      have b : IntKind.u8.max = 255 := by decide
      simp [Lit.wf, a, b]; omega⟩])]
  simp [List.flatten, List.range, List.range.loop]
theorem hash_self {h : Nat → Int} (hB : Byt h) (w : World) : (Op.equalIn 10000 23 (.agg (arrK .u8 h 32)) (.agg (arrK .u8 h 32))).run Tryd.prog w = .ok true w := by
  have hl := hash_lits hB 0
  have hf : Value.formed Tryd.prog 23 (.agg (arrK .u8 h 32)) = true := by
    simp only [Value.formed, Tryd.underlying23, arrK_size]
    kernel_rfl
  obtain ⟨r, hr, hi⟩ := run_equalIn_deep (P := Tryd.prog) 9990 10 23 (by kernel_rfl) w 2 2 _ _ _ _ hf hf hl hl
  rw [hi.2 rfl] at hr
  exact hr
theorem draw_self {h : Nat → Int} {c : Int} (hB : Byt h) (c0 : -9223372036854775808 ≤ c) (c1 : c ≤ 9223372036854775807) (w : World) : (Op.equalIn 10000 25 (.agg (drwA h c)) (.agg (drwA h c))).run Tryd.prog w = .ok true w := by
  have hl : ∃ l, Tryd.prog.keyLits 3 25 (drwA h c).toList = some l := by
    unfold Program.keyLits
    simp only [Tryd.underlying25]
    rw [if_pos ⟨by rw [Array.length_toList, drwA_size]; kernel_rfl, by kernel_rfl⟩]
    have e0 : ((drwA h c).toList.drop 0).take (Tryd.prog.cellsOf 23) = (arrK .u8 h 32).toList := by
      have hc : Tryd.prog.cellsOf 23 = 32 := by kernel_rfl
      rw [hc, List.drop_zero, drwA, Array.toList_push, List.take_append_of_le_length (by rw [Array.length_toList, arrK_size]; exact Nat.le_refl _), List.take_of_length_le (by rw [Array.length_toList, arrK_size]; exact Nat.le_refl _)]
    have e1 : ((drwA h c).toList.drop 32).take (Tryd.prog.cellsOf 3) = [.int .i64 c] := by
      have hc : Tryd.prog.cellsOf 3 = 1 := by kernel_rfl
      have hn : (arrK .u8 h 32).toList.length = 32 := by rw [Array.length_toList, arrK_size]
      rw [hc, drwA, Array.toList_push, List.drop_append_of_le_length (by rw [hn]; exact Nat.le_refl _), List.drop_of_length_le (by rw [hn]; exact Nat.le_refl _)]
      rfl
    simp only [List.mapM_cons, List.mapM_nil]
    rw [e0, e1, hash_lits hB 0]
    unfold Program.keyLits
    simp only [Tryd.underlying3]
    rw [if_pos ⟨trivial, by
      have a : IntKind.i64.min = -9223372036854775808 := by decide
      have b : IntKind.i64.max = 9223372036854775807 := by decide
      simp [Lit.wf, a, b]; omega⟩]
    exact ⟨_, rfl⟩
  obtain ⟨l, hl⟩ := hl
  have hf : Value.formed Tryd.prog 25 (.agg (drwA h c)) = true := by
    simp only [Value.formed, Tryd.underlying25, drwA_size]
    kernel_rfl
  obtain ⟨r, hr, hi⟩ := run_equalIn_deep (P := Tryd.prog) 9990 10 25 (by kernel_rfl) w 3 3 _ _ _ _ hf hf hl hl
  rw [hi.2 rfl] at hr
  exact hr
end Go.Proofs.YtdlcmpbpdbpanaaDoor
namespace Go.Proofs.YtdlcmpbpdbpanaaDoor
open Go.RowKit Go.Sp
set_option maxHeartbeats 4000000
set_option maxRecDepth 20000

theorem nxt_one (h : Nat → Int) (c : Int) (h0 : 0 ≤ c) (h1 : c < 1099511627776) : nxtV h c 1 = .tuple #[drw h (c + 1), .int .i64 0, .int .i64 0] := by
  have hk : chkE c 1 1 2305843009213693951 = 0 := chk_iff.2 ⟨⟨h0, by omega⟩, by omega, by omega⟩
  have hn := numT_pow (h := h) (n := 0) (by omega) (c := c) (by omega)
  rw [nxtV, if_pos hk]
  rw [show ((2 : Int) ^ 0) = 1 from rfl] at hn
  rw [hn]
  simp
theorem byt_33 (h : Nat → Int) : bytE 0 33 = 0 ∧ bytD h 0 33 = drw h 2 ∧ (bytL h 0 33).length = 33 := by
  have hk : chkE 0 33 0 16384 = 0 := by decide +kernel
  have hn : needB 33 = 2 := by decide +kernel
  have he : bytE 0 33 = 0 := by rw [bytE, if_pos hk, hn]; decide
  refine ⟨he, by rw [bytD, if_pos he, hn]; rfl, ?_⟩
  rw [bytL, if_pos he, hn, List.length_take, catL_length]
  decide

theorem awake09 (w : World) (hS : TabS w) : Calls Tryd.prog 13 #[] w fun e w' => e = .returned (.bool true) ∧ Up w w' := by
  have M1 := hid (fun w' (v : Value) (hU : Up w w') (hv : SeqAt .u8 w' v [120]) => New_any v [120] w' (hS.up hU) hv (by simp))
  rw [show newV [120] = .tuple #[drw (tagB (txt drawTag) [120]) 0, .int .i64 0] by rw [newV, if_pos (by decide)]] at M1
  have hB : Byt (tagB (txt drawTag) [120]) := fun i => tagB_range _ _ i
  generalize tagB (txt drawTag) [120] = H at *
  have M2 := hid (fun w' (hU : Up w w') => Next_any H 0 1 w' (hS.up hU) hB)
  rw [nxt_one H 0 (by omega) (by omega), show (0 : Int) + 1 = 1 from rfl] at M2
  have M3 := hid (fun w' (hU : Up w w') => Bytes_any H 0 33 w' (hS.up hU) hB)
  obtain ⟨e1, e2, e3⟩ := byt_33 H
  unfold BytOut at M3
  rw [e1, e2] at M3
  have HL := hid e3
  unfold drw at M1 M2 M3
  have HC0 := hid (drwA_ctr H 0)
  have HC1 := hid (drwA_ctr H 1)
  have HC2 := hid (drwA_ctr H 2)
  clear hS hB e1 e2 e3
  have hcv := Lib.run_convert_bytes_const (P := Tryd.prog) w 31 5 #[.int .u8 120] 1 1 Tryd.underlying31 Tryd.underlying5
  go_enter Tryd.func13, Tryd.ntmps13
  go_wp2_with fail
  refine (M1.out _ _ ((Up.refl w).alloc _) (seq_block (heap_alloc_new w _) [120] 0 1 1 rfl (by decide) (by decide) (fun i hi => by
    obtain rfl : i = 0 := by omega
    rfl))).mono ?_
  rintro e w1 ⟨rfl, hU1⟩
  have HU1 := hid (((Up.refl w).alloc _).trans hU1)
  clear hU1
  clear hcv
  obtain ⟨b1, hb1⟩ : ∃ b, w1.heap.size = b := ⟨_, rfl⟩
  have HB1 := hid hb1
  clear hb1
  have HU1a := hid (HU1.out.alloc (.cells (drwA H 0) 25))
  go_wp2_with (first | (refine wpList_store_rowTo rfl 25 _ _ rfl rfl _ (drwA _ _) rfl rfl 25 _ (heap_alloc_new _ _) (sizeDrw _ _) (by rw [drwA_size]; rfl) (drwA_one _ _) ?_; rw [World.setRow_alloc_new]) | (refine wpList_load_row rfl 25 _ rfl w1.heap.size rfl 25 (drwA H 0) (0, 0) _ (Blk.new rfl rfl) Tryd.underlying25 rfl (sizeDrw _ _) ?_))
  refine (M2.out _ HU1a.out).mono ?_
  rintro e w2 ⟨rfl, hU2⟩
  rw [HB1.out]
  have HD2 := hid ((Blk.new (w := w1) (t := 25) (cs := drwA H 0) HB1.out rfl).up hU2)
  have HU2 := hid (HU1a.out.trans hU2)
  clear hU2 HU1a HU1
  obtain ⟨b2, hb2⟩ : ∃ b, w2.heap.size = b := ⟨_, rfl⟩
  have HB2 := hid hb2
  clear hb2
  have HD2a := hid (HD2.out.alloc (.cells (drwA H 1) 25))
  have HU2a := hid (HU2.out.alloc (.cells (drwA H 1) 25))
  go_wp2_with (first | (refine wpList_store_rowTo rfl 25 _ _ rfl rfl _ (drwA _ _) rfl rfl 25 _ (heap_alloc_new _ _) (sizeDrw _ _) (by rw [drwA_size]; rfl) (drwA_one _ _) ?_; rw [World.setRow_alloc_new]) | (refine wpList_load_row rfl 25 _ rfl b1 rfl 25 (drwA H 0) (0, 0) _ HD2a.out Tryd.underlying25 rfl (sizeDrw _ _) ?_))
  refine (M3.out _ HU2a.out).mono ?_
  rintro e w3 ⟨v3, rfl, hv3, hU3⟩
  rw [HB2.out]
  have HD3 := hid (HD2a.out.up hU3)
  have HE3 := hid ((Blk.new (w := w2) (t := 25) (cs := drwA H 1) HB2.out rfl).up hU3)
  have HU3 := hid (HU2a.out.trans hU3)
  obtain ⟨a3, c3, rfl, _, _⟩ := hv3.shape
  rw [HL.out]
  clear hU3 hv3 HD2 HD2a HU2 HU2a
  have k1 := (HD3.out.alloc (.cells (drwA H 2) 25)).val HC0.out
  have k2 := (HE3.out.alloc (.cells (drwA H 2) 25)).val HC1.out
  have k3 := (Blk.new (w := w3) (t := 25) (cs := drwA H 2) rfl rfl).val HC2.out
  have HU4 := hid (HU3.out.alloc (.cells (drwA H 2) 25))
  go_wp2_with (refine wpList_store_rowTo rfl 25 _ _ rfl rfl _ (drwA _ _) rfl rfl 25 _ (heap_alloc_new _ _) (sizeDrw _ _) (by rw [drwA_size]; rfl) (drwA_one _ _) ?_; rw [World.setRow_alloc_new])
  go_ret
  exact ⟨rfl, HU4.out⟩
end Go.Proofs.YtdlcmpbpdbpanaaDoor
namespace Go.Proofs.YtdlcmpbpdbpanaaDoor
open Go.RowKit Go.Sp
set_option maxHeartbeats 4000000
set_option maxRecDepth 20000

theorem DrawPowers_walk (h : Nat → Int) (c x q : Int) (w : World) (hS : TabS w) (hB : Byt h) (c0 : -9223372036854775808 ≤ c) (c1 : c ≤ 9223372036854775807) (x0 : 0 ≤ x) (x1 : x ≤ 255) :
    Calls Tryd.prog 3 #[drw h c, .int .u8 x, .int .i64 q] w fun e w' => e = .returned (.bool true) ∧ Up w w' := by
  have M1 := hid (fun w' (hU : Up w w') => awake09 w' (hS.up hU))
  have M2 := hid (fun w' => draValid_any h c w')
  have M3 := hid (fun w' (hU : Up w w') (q : Int) => Next_any h c q w' (hS.up hU) hB)
  have M4 := hid (fun w' (hU : Up w w') => Bytes_any h c 8 w' (hS.up hU) hB)
  have M5 := hid (fun w' (hU : Up w w') => Nonzero_any h c q w' (hS.up hU) hB)
  have HB := hid hB
  have HC0 := hid (drwA_ctr h c)
  obtain ⟨o, ho⟩ : ∃ o, w.heap.size = o := ⟨_, rfl⟩
  have HO := hid ho
  unfold drw at M2 ⊢
  clear hS hB ho
  go_enter Tryd.func3, Tryd.ntmps3
  go_wp2_with fail
  refine (M1.out _ ((Up.refl w).alloc _)).mono ?_
  rintro e w1 ⟨rfl, hU1⟩
  have HD1 := hid ((Blk.new (g := o) (t := 25) (cs := drwA h c) HO.out rfl).up hU1)
  have HU1 := hid (((Up.refl w).alloc _).trans hU1)
  clear hU1
  rw [HO.out]
  go_wp2_with refine wpList_load_row rfl 25 _ rfl o rfl 25 (drwA h c) (0, 0) _ HD1.out Tryd.underlying25 rfl (sizeDrw _ _) ?_
  refine (M2.out _).mono ?_
  rintro e w2 ⟨rfl, hU2⟩
  have HD2 := hid (HD1.out.up hU2)
  have HU2 := hid (HU1.out.trans hU2)
  clear hU2 HD1 HU1
  have k0 := HD2.out.val HC0.out
  by_cases hV : dvB c = true
  case neg =>
    have d : dvB c = false := by simpa using hV
    rw [d]
    clear hV d
    go_wp2
    go_ret
    exact ⟨rfl, HU2.out⟩
  obtain ⟨v0, v1⟩ := dvB_iff.1 hV
  rw [hV]
  clear hV
  by_cases hc : c > 549755813888
  case pos =>
    have d : decide (c > 549755813888) = true := by simp; omega
    clear hc
    go_wp2
    go_ret
    exact ⟨rfl, HU2.out⟩
  have d : decide (c > 549755813888) = false := by simp; omega
  have hc : c ≤ 549755813888 := by omega
  obtain ⟨k, hk, hkn⟩ : ∃ k : Nat, x.tmod 61 = k ∧ k ≤ 60 := by
    rw [Int.tmod_eq_emod_of_nonneg x0]
    exact ⟨(x % 61).toNat, by omega, by omega⟩
  have hwx : IntKind.i64.wrap x = x := by rw [IntKind.wrap_i64]; omega
  go_wp2_with fail
  clear k0 d
  have M3n := hid (fun w' (hU : Up w w') => nxt_pow v0 hc hkn ▸ M3.out w' hU (2 ^ k))
  obtain ⟨p0, p1⟩ := pow60 hkn
  have fsi := shl_i hkn
  obtain ⟨X, hX⟩ : ∃ X, firK (shaB (posL h c)) 8 = X := ⟨_, rfl⟩
  obtain ⟨X0, X1⟩ := firK_range (h := shaB (posL h c)) (fun i => shaB_range _ i) 8
  rw [hX] at M3n X0 X1
  obtain ⟨K2, hK2⟩ : ∃ K2 : Int, 2 ^ k = K2 := ⟨_, rfl⟩
  have HK2 := hid hK2
  have fsu := (shl_u hkn).trans hK2
  rw [hK2] at M3n p0 p1 fsi
  obtain ⟨N, hN⟩ : ∃ N, X % K2 = N := ⟨_, rfl⟩
  have fmu : X.tmod K2 = N := by rw [Int.tmod_eq_emod_of_nonneg X0, hN]
  have fwn : IntKind.u64.wrap N = N := by
    rw [IntKind.wrap_u64]
    have := Int.emod_nonneg X (show K2 ≠ 0 by omega)
    have := Int.emod_lt_of_pos X (show 0 < K2 by omega)
    omega
  rw [hN] at M3n
  have HX := hid hX
  unfold drw at M3n
  obtain ⟨b1, b2, b3⟩ := byt_eight (h := h) v0 hc
  unfold BytOut at M4
  rw [b1, b2, b3] at M4
  have HL8 : Hid (((hList (shaB (posL h c))).take 8).length = 8) := hid (by rw [List.length_take, hList_length]; decide)
  have HG8 : Hid (∀ i, i < 8 → ((hList (shaB (posL h c))).take 8).getD i 0 = shaB (posL h c) i) := hid (fun i hi => by
    simp [hList, hi])
  have HY : Hid (Byt (shaB (posL h c))) := hid (fun i => shaB_range _ i)
  generalize (hList (shaB (posL h c))).take 8 = L8 at *
  generalize shaB (posL h c) = Y at *
  unfold drw at M4
  have HC1 := hid (drwA_ctr h (c + 1))
  have fwc : IntKind.i64.wrap (c + 1) = c + 1 := by rw [IntKind.wrap_i64]; omega
  have HQ := hid (fun w' => draw_self (h := h) (c := c + 1) HB.out (by omega) (by omega) w')
  clear hN hK2 hX M3 b1 b2 b3
  go_cut [8, 9, 10] from 32 (fun va vb vc w' => ∃ g, va = .pointer (some ⟨g, 0, none⟩) ∧ vb = .int .i64 N ∧ vc = .int .i64 0 ∧ Hid (Up w w') ∧ Hid (Blk w' o 25 (drwA h c)) ∧ Hid (Blk w' g 25 (drwA h (c + 1))))
  case first =>
    refine region_E (fun w' => Blk w' o 25 (drwA h c)) 12 (by kernel_rfl) (HD2.out.up (Up.refl _).drew) fun hS => ?_
    have hU := HU2.out.drew
    generalize w2.drew = u0 at *
    refine anyE_takeA (i := 0) (v := .agg (drwA h c).toList.toArray) 33 rfl rfl (by kernel_rfl) (by decide) (fun _ _ _ h => h) (by kernel_rfl) (by kernel_rfl) (yieldsIf_load_mid (by rfl) 25 _ rfl o 0 rfl (drwA h c).toList _ (fun u hu => blk_range hu) Tryd.underlying25 rfl (by rw [Array.length_toList]; exact sizeDrw _ _)) hS ?_
    rw [Array.toArray_toList]
    try simp only [Act.put, List.setIfInBounds_toArray, List.set_cons_zero, List.set_cons_succ]
    refine anyE_takeA (i := 1) (v := ?_) 34 rfl rfl (by kernel_rfl) (by decide) (fun _ _ _ h => h) (by kernel_rfl) (by kernel_rfl) (.inl ⟨by rfl, fun u hu => ?_⟩) hS ?_
    rotate_left
    · (go_simp; first | done | with_reducible rfl)
    try simp only [Act.put, List.setIfInBounds_toArray, List.set_cons_zero, List.set_cons_succ]
    refine anyE_takeA (i := 2) (v := .int .i64 K2) 35 rfl rfl (by kernel_rfl) (by decide) (fun _ _ _ h => h) (by kernel_rfl) (by kernel_rfl) (.inl ⟨by rfl, fun u hu => ?_⟩) hS ?_
    · (go_simp; first | done | with_reducible rfl | (rw [HK2.out]; exact fsi))
    try simp only [Act.put, List.setIfInBounds_toArray, List.set_cons_zero, List.set_cons_succ]
    refine anyE_two 3 8 (by kernel_rfl) ⟨_, rfl, rfl, fun K hK => ?_⟩ ⟨_, rfl, rfl, fun K hK => ?_⟩
    · go_simp
      refine (M3n.out _ hU).mono ?_
      rintro e u1 ⟨rfl, hup⟩
      dsimp only
      have hS1 := hS.up hup
      have hU1 := hU.trans hup
      refine hK.out _ _ (.inr hS1) ?_
      clear hK
      try simp only [Act.put, List.setIfInBounds_toArray, List.set_cons_zero, List.set_cons_succ]
      refine anyE_takeA (i := 4) (v := ?_) 32 rfl rfl (by kernel_rfl) (by decide) (fun _ _ _ h => h) (by kernel_rfl) (by kernel_rfl) (.inl ⟨by rfl, fun u hu => ?_⟩) hS1 ?_
      rotate_left
      · (go_simp; first | done | with_reducible rfl)
      try simp only [Act.put, List.setIfInBounds_toArray, List.set_cons_zero, List.set_cons_succ]
      refine anyE_takeA (i := 5) (v := ?_) 37 rfl rfl (by kernel_rfl) (by decide) (fun _ _ _ h => h) (by kernel_rfl) (by kernel_rfl) (.inl ⟨by rfl, fun u hu => ?_⟩) hS1 ?_
      rotate_left
      · (go_simp; first | done | with_reducible rfl)
      try simp only [Act.put, List.setIfInBounds_toArray, List.set_cons_zero, List.set_cons_succ]
      refine anyE_takeA (i := 6) (v := ?_) 38 rfl rfl (by kernel_rfl) (by decide) (fun _ _ _ h => h) (by kernel_rfl) (by kernel_rfl) (.inl ⟨by rfl, fun u hu => ?_⟩) hS1 ?_
      rotate_left
      · (go_simp; first | done | with_reducible rfl)
      try simp only [Act.put, List.setIfInBounds_toArray, List.set_cons_zero, List.set_cons_succ]
      refine anyE_takeA (i := 7) (v := ?_) 39 rfl rfl (by kernel_rfl) (by decide) (fun _ _ _ h => h) (by kernel_rfl) (by kernel_rfl) (.inl ⟨by rfl, fun u hu => ?_⟩) hS1 ?_
      rotate_left
      · (go_simp; first | done | with_reducible rfl)
      try simp only [Act.put, List.setIfInBounds_toArray, List.set_cons_zero, List.set_cons_succ]
      refine anyE_one (i := 8) rfl (by kernel_rfl) rfl (fun K hK => ?_)
      go_simp
      obtain ⟨g, hg⟩ : ∃ g, u1.heap.size = g := ⟨_, rfl⟩
      generalize hWz : World.alloc u1 _ = u2
      have hZ : Blk u2 g 25 (drwA zeroH 0) := by rw [← hWz]; exact Blk.new hg zero33
      have hUz : Up u1 u2 := by rw [← hWz]; exact (Up.refl _).alloc _
      have hgu : w.heap.size ≤ g := by have := hU1.size; omega
      have hgo : o ≠ g := by have := hS1.lt; omega
      try rw [hg]
      have hS2 := hS1.up hUz
      have hU2 := hU1.trans hUz
      refine hK.out _ _ (.inr hS2) ?_
      clear hK hWz
      try simp only [Act.put, List.setIfInBounds_toArray, List.set_cons_zero, List.set_cons_succ]
      refine anyE_one (i := 9) rfl (by kernel_rfl) rfl (fun K hK => ?_)
      refine op_store_row 25 _ _ rfl rfl g (drwA h (c + 1)) rfl rfl 25 (drwA zeroH 0) hZ (sizeDrw _ _) (by rw [drwA_size, drwA_size]) (drwA_one _ _) ?_
      have hS3 := Blk.rowApart hS2 hgo (drwA h (c + 1))
      have hU3 := hU2.setRow hgu (drwA h (c + 1))
      have hZ3 := hZ.row (drwA h (c + 1))
      refine hK.out _ _ (.inr hS3) ?_
      clear hK
      try simp only [Act.put, List.setIfInBounds_toArray, List.set_cons_zero, List.set_cons_succ]
      refine anyE_takeA (i := 10) (v := ?_) 9 rfl rfl (by kernel_rfl) (by decide) (fun _ _ _ h => h) (by kernel_rfl) (by kernel_rfl) (.inl ⟨by rfl, fun u hu => ?_⟩) hS3 ?_
      rotate_left
      · (go_simp; first | done | with_reducible rfl)
      try simp only [Act.put, List.setIfInBounds_toArray, List.set_cons_zero, List.set_cons_succ]
      refine anyE_takeA (i := 11) (v := ?_) 10 rfl rfl (by kernel_rfl) (by decide) (fun _ _ _ h => h) (by kernel_rfl) (by kernel_rfl) (.inl ⟨by rfl, fun u hu => ?_⟩) hS3 ?_
      rotate_left
      · (go_simp; first | done | with_reducible rfl)
      try simp only [Act.put, List.setIfInBounds_toArray, List.set_cons_zero, List.set_cons_succ]
      refine anyE_done (by kernel_rfl) ?_ _
      generalize World.setRow _ _ _ = u4 at *
      clear hS hU hup hUz
      go_wp2_with fail
      go_meet
      exact ⟨g, rfl, rfl, rfl, hid hU3, hid hS3, hid hZ3⟩
    · go_simp
      obtain ⟨g, hg⟩ : ∃ g, u0.heap.size = g := ⟨_, rfl⟩
      generalize hWz : World.alloc u0 _ = u1
      have hZ : Blk u1 g 25 (drwA zeroH 0) := by rw [← hWz]; exact Blk.new hg zero33
      have hUz : Up u0 u1 := by rw [← hWz]; exact (Up.refl _).alloc _
      have hgu : w.heap.size ≤ g := by have := hU.size; omega
      have hgo : o ≠ g := by have := hS.lt; omega
      try rw [hg]
      have hS1 := hS.up hUz
      have hU1 := hU.trans hUz
      refine hK.out _ _ (.inr hS1) ?_
      clear hK hWz
      try simp only [Act.put, List.setIfInBounds_toArray, List.set_cons_zero, List.set_cons_succ]
      refine anyE_one (i := 3) rfl (by kernel_rfl) rfl (fun K hK => ?_)
      go_simp
      refine (M3n.out _ hU1).mono ?_
      rintro e u2 ⟨rfl, hup⟩
      dsimp only
      have hS2 := hS1.up hup
      have hU2 := hU1.trans hup
      have hZ := hZ.up hup
      refine hK.out _ _ (.inr hS2) ?_
      clear hK
      try simp only [Act.put, List.setIfInBounds_toArray, List.set_cons_zero, List.set_cons_succ]
      refine anyE_takeA (i := 4) (v := ?_) 32 rfl rfl (by kernel_rfl) (by decide) (fun _ _ _ h => h) (by kernel_rfl) (by kernel_rfl) (.inl ⟨by rfl, fun u hu => ?_⟩) hS2 ?_
      rotate_left
      · (go_simp; first | done | with_reducible rfl)
      try simp only [Act.put, List.setIfInBounds_toArray, List.set_cons_zero, List.set_cons_succ]
      refine anyE_takeA (i := 5) (v := ?_) 37 rfl rfl (by kernel_rfl) (by decide) (fun _ _ _ h => h) (by kernel_rfl) (by kernel_rfl) (.inl ⟨by rfl, fun u hu => ?_⟩) hS2 ?_
      rotate_left
      · (go_simp; first | done | with_reducible rfl)
      try simp only [Act.put, List.setIfInBounds_toArray, List.set_cons_zero, List.set_cons_succ]
      refine anyE_takeA (i := 6) (v := ?_) 38 rfl rfl (by kernel_rfl) (by decide) (fun _ _ _ h => h) (by kernel_rfl) (by kernel_rfl) (.inl ⟨by rfl, fun u hu => ?_⟩) hS2 ?_
      rotate_left
      · (go_simp; first | done | with_reducible rfl)
      try simp only [Act.put, List.setIfInBounds_toArray, List.set_cons_zero, List.set_cons_succ]
      refine anyE_takeA (i := 7) (v := ?_) 39 rfl rfl (by kernel_rfl) (by decide) (fun _ _ _ h => h) (by kernel_rfl) (by kernel_rfl) (.inl ⟨by rfl, fun u hu => ?_⟩) hS2 ?_
      rotate_left
      · (go_simp; first | done | with_reducible rfl)
      try simp only [Act.put, List.setIfInBounds_toArray, List.set_cons_zero, List.set_cons_succ]
      refine anyE_one (i := 9) rfl (by kernel_rfl) rfl (fun K hK => ?_)
      refine op_store_row 25 _ _ rfl rfl g (drwA h (c + 1)) rfl rfl 25 (drwA zeroH 0) hZ (sizeDrw _ _) (by rw [drwA_size, drwA_size]) (drwA_one _ _) ?_
      have hS3 := Blk.rowApart hS2 hgo (drwA h (c + 1))
      have hU3 := hU2.setRow hgu (drwA h (c + 1))
      have hZ3 := hZ.row (drwA h (c + 1))
      refine hK.out _ _ (.inr hS3) ?_
      clear hK
      try simp only [Act.put, List.setIfInBounds_toArray, List.set_cons_zero, List.set_cons_succ]
      refine anyE_takeA (i := 10) (v := ?_) 9 rfl rfl (by kernel_rfl) (by decide) (fun _ _ _ h => h) (by kernel_rfl) (by kernel_rfl) (.inl ⟨by rfl, fun u hu => ?_⟩) hS3 ?_
      rotate_left
      · (go_simp; first | done | with_reducible rfl)
      try simp only [Act.put, List.setIfInBounds_toArray, List.set_cons_zero, List.set_cons_succ]
      refine anyE_takeA (i := 11) (v := ?_) 10 rfl rfl (by kernel_rfl) (by decide) (fun _ _ _ h => h) (by kernel_rfl) (by kernel_rfl) (.inl ⟨by rfl, fun u hu => ?_⟩) hS3 ?_
      rotate_left
      · (go_simp; first | done | with_reducible rfl)
      try simp only [Act.put, List.setIfInBounds_toArray, List.set_cons_zero, List.set_cons_succ]
      refine anyE_done (by kernel_rfl) ?_ _
      generalize World.setRow _ _ _ = u4 at *
      clear hS hU hup hUz
      go_wp2_with fail
      go_meet
      exact ⟨g, rfl, rfl, rfl, hid hU3, hid hS3, hid hZ3⟩
  case rest =>
    obtain ⟨g, rfl, rfl, rfl, HU3, HD3, HE3⟩ := hcut
    go_wp2_with (refine wpList_load_row rfl 25 _ rfl o rfl 25 (drwA h c) (0, 0) _ HD3.out Tryd.underlying25 rfl (sizeDrw _ _) ?_)
    refine (M4.out _ HU3.out).mono ?_
    rintro e w4 ⟨v4, rfl, hv4, hU4⟩
    obtain ⟨b, hb⟩ : ∃ b, w4.heap.size = b := ⟨_, rfl⟩
    have HBb := hid hb
    clear hb
    have HU5 := hid ((HU3.out.trans hU4).alloc (.cells (drwA h (c + 1)) 25))
    have HD5 := hid ((HD3.out.up hU4).alloc (.cells (drwA h (c + 1)) 25))
    have HE5 := hid ((HE3.out.up hU4).alloc (.cells (drwA h (c + 1)) 25))
    have HF5 := hid (Blk.new (w := w4) (t := 25) (cs := drwA h (c + 1)) HBb.out rfl)
    have HV5 := hid (hv4.up ((Up.refl w4).alloc (.cells (drwA h (c + 1)) 25)))
    obtain ⟨a4, cp, rfl, _, _⟩ := hv4.shape
    rw [HL8.out] at HV5 ⊢
    clear hU4 hv4 HU3 HD3 HE3
    have k1 := HD5.out.val HC0.out
    have k2 := HE5.out.val HC1.out
    have k3 := HF5.out.val HC1.out
    have hq := HQ.out
    go_wp2_with (first
      | (refine wpList_store_rowTo rfl 25 _ _ rfl rfl _ (drwA _ _) rfl rfl 25 _ (heap_alloc_new _ _) (sizeDrw _ _) (by rw [drwA_size]; rfl) (drwA_one _ _) ?_; rw [World.setRow_alloc_new, HBb.out]; generalize w4.alloc (.cells (drwA h (c + 1)) 25) = w5 at *)
      | (refine wpList_load_rowG (by rfl) 25 _ rfl g rfl 25 (drwA h (c + 1)) (0, 0) _ HE5.out Tryd.underlying25 rfl (sizeDrw _ _) ?_)
      | (refine wpList_load_rowG (by rfl) 25 _ rfl b rfl 25 (drwA h (c + 1)) (0, 0) _ HF5.out Tryd.underlying25 rfl (sizeDrw _ _) ?_))
    have hk0 : ¬ K2 = 0 := by omega
    have hk1 : (K2 == 0) = false := by simp [hk0]
    clear k1 k2 k3 hq HE5 HF5 HQ HK2 fsi HC1 M4 M1 M2 fwc
    obtain ⟨b4, of4, cp4, e4, _⟩ := HV5.out.cell (i := 0) (by rw [HL8.out]; omega)
    obtain ⟨rfl, -, -⟩ := Value.slice.inj e4
    clear e4
    go_loopw [14, 72] (fun vx vi wr => ∃ i : Nat, i ≤ 8 ∧ vi = .int .i64 i ∧ vx = .int .u64 (firK Y i) ∧ Hid (Up w wr) ∧ Hid (Blk wr o 25 (drwA h c)) ∧ Hid (SeqAt .u8 wr (.slice (some ⟨b4, of4, none⟩) 8 cp) L8)) (fun _ vi _ => 8 - (intOf vi).toNat)
    case atStart => exact ⟨0, by omega, rfl, rfl, HU5, HD5, HV5⟩
    case round =>
      clear HU5 HD5 HV5
      obtain ⟨i, hi, rfl, rfl, HU, HD, HV⟩ := hrel
      by_cases hlt : i < 8
      · obtain ⟨b5, of5, cp5, e5, q1⟩ := HV.out.cell (i := i) (by rw [HL8.out]; omega)
        obtain ⟨e6, -, -⟩ := Value.slice.inj e5
        obtain ⟨rfl, rfl, -⟩ := Addr.mk.inj (Option.some.inj e6)
        rw [HG8.out i hlt] at q1
        have r1 := firK_range HY.out i
        have r2 : (256 : Int) ^ i ≤ 72057594037927936 := by
          have : i = 0 ∨ i = 1 ∨ i = 2 ∨ i = 3 ∨ i = 4 ∨ i = 5 ∨ i = 6 ∨ i = 7 := by omega
          rcases this with rfl | rfl | rfl | rfl | rfl | rfl | rfl | rfl <;> decide
        have r3 := HY.out i
        have HS : Hid (firK Y (i + 1) = firK Y i * 256 + Y i) := hid rfl
        have hx1 : firK Y i < 72057594037927936 := Int.lt_of_lt_of_le r1.2 r2
        have hx0 := r1.1
        generalize firK Y i = x2 at *
        generalize Y i = c2 at *
        have hc0 := r3.1
        have hc1 := r3.2
        have hor := or_byte64 x2 c2 hx0 hx1 hc0 hc1
        clear r1 r2 r3 e5 e6 fsu fmu fwn hk0 hk1 p0 p1 X0 X1
        go_wp2_with fail
        go_roundw
        case rel => exact ⟨i + 1, by omega, by go_num, by rw [HS.out], HU, HD, HV⟩
        case measure => simp [intOf]; omega
      · obtain rfl : i = 8 := by omega
        rw [HX.out]
        clear HV hlt hi HG8 HL8
        rcases nzn_low (h := h) (q := q) v0 hc with ⟨E, hE, hE0, hE1⟩ | ⟨C, Z, hZ, hZ1, hZ2, hZ3⟩
        · rw [hE] at M5
          unfold drw at M5
          have dE : (E != 0) = true := by simpa using hE0
          clear hE hE0
          go_wp2_with (refine wpList_load_row rfl 25 _ rfl o rfl 25 (drwA h c) (0, 0) _ HD.out Tryd.underlying25 rfl (sizeDrw _ _) ?_)
          refine (M5.out _ HU.out).mono ?_
          rintro e w6 ⟨rfl, hU6⟩
          have HU6 := hid ((HU.out.trans hU6).alloc (.cells (drwA zeroH 0) 25))
          clear hU6 HU HD
          by_cases hq : q < 2
          · have d2 : decide (q < 2) = true := by simpa using hq
            clear hE1 hq
            go_wp2_with (refine wpList_store_rowTo rfl 25 _ _ rfl rfl _ (drwA _ _) rfl rfl 25 _ (heap_alloc_new _ _) (sizeDrw _ _) (by rw [drwA_size]; rfl) (drwA_one _ _) ?_; rw [World.setRow_alloc_new])
            go_ret
            exact ⟨rfl, HU6.out⟩
          · have d2 : decide (q < 2) = false := by simpa using hq
            have d3 : decide (q ≥ 2305843009213693952) = true := by simp; omega
            clear hE1 hq
            go_wp2_with (refine wpList_store_rowTo rfl 25 _ _ rfl rfl _ (drwA _ _) rfl rfl 25 _ (heap_alloc_new _ _) (sizeDrw _ _) (by rw [drwA_size]; rfl) (drwA_one _ _) ?_; rw [World.setRow_alloc_new])
            go_ret
            exact ⟨rfl, HU6.out⟩
        · rw [hZ] at M5
          unfold drw at M5
          have d1 : decide (Z ≥ 1) = true := by simp; omega
          have d2 : decide (Z < q) = true := by simp; omega
          have d3 : decide (C > c) = true := by simp; omega
          have HCC := hid (drwA_ctr h C)
          have HQ := hid (fun w' => hash_self (h := h) HB.out w')
          clear hZ hZ1 hZ2 hZ3
          go_wp2_with (refine wpList_load_row rfl 25 _ rfl o rfl 25 (drwA h c) (0, 0) _ HD.out Tryd.underlying25 rfl (sizeDrw _ _) ?_)
          refine (M5.out _ HU.out).mono ?_
          rintro e w6 ⟨rfl, hU6⟩
          obtain ⟨b6, hb6⟩ : ∃ b, w6.heap.size = b := ⟨_, rfl⟩
          have HB6 := hid hb6
          clear hb6
          have HU6 := hid ((HU.out.trans hU6).alloc (.cells (drwA h C) 25))
          have HD6 := hid ((HD.out.up hU6).alloc (.cells (drwA h C) 25))
          have HE6 := hid (Blk.new (w := w6) (t := 25) (cs := drwA h C) HB6.out rfl)
          clear hU6 HU HD
          have k1 := HD6.out.val HC0.out
          have k2 := HE6.out.val HCC.out
          have hq := HQ.out
          go_wp2_with (first
            | (refine wpList_store_rowTo rfl 25 _ _ rfl rfl _ (drwA _ _) rfl rfl 25 _ (heap_alloc_new _ _) (sizeDrw _ _) (by rw [drwA_size]; rfl) (drwA_one _ _) ?_; rw [World.setRow_alloc_new]; rw [HB6.out]; generalize w6.alloc (.cells (drwA h C) 25) = w7 at *)
            | (refine wpList_load_midG (by rfl) 23 _ rfl o 0 rfl (arrK .u8 h 32).toList _ (drw_hash HD6.out) Tryd.underlying23 rfl (sizeHs _) ?_; rw [Array.toArray_toList])
            | (refine wpList_load_midG (by rfl) 23 _ rfl b6 0 rfl (arrK .u8 h 32).toList _ (drw_hash HE6.out) Tryd.underlying23 rfl (sizeHs _) ?_; rw [Array.toArray_toList]))
          go_ret
          exact ⟨rfl, HU6.out⟩
end Go.Proofs.YtdlcmpbpdbpanaaDoor
namespace Go.Proofs.YtdlcmpbpdbpanaaDoor.lawDrawPowers
open Go.Proofs.YtdlcmpbpdbpanaaDoor Go.ChangeShapes Go.WideShapes Go.ChangeAt Go.RowKit Go.Sp

set_option maxRecDepth 100000 in
theorem contract (H : Type) (enc : TypeId × Value → H) (W : World) (base : Nat) (args : Array Value) (ds gs : List (DataW H)) (before : List MemPlace)
    (hval : ∀ (j : Nat) t v, Tryd.f3.params[j]? = some t → args[j]? = some v → Value.okWide Tryd.prog W .any base t v)
    (hW : DataW.Whole enc Tryd.prog Tryd.f3.params.toList Rows.drawPowersSpec.vars false W args.toList ds gs before) (hL : laidMetH Tryd.prog Rows.drawPowersRow.laid W) :
    Calls Tryd.prog 3 args W fun e W' => ∃ v, e = .returned v ∧ Rows.drawPowersSpec.post enc Tryd.prog Tryd.f3 false true false false W args v W' := by
  have hS := tabS_of_sha hL
  have hW' := hW
  obtain ⟨p, q, hA0, hV, rfl, hfz, hnd⟩ := hW
  have hA : DataW.TrodAll enc Tryd.prog W 0 (fun _ => true) true Tryd.f3.params.toList args.toList ds p := hA0
  rw [Tryd.params3] at hA hval
  obtain ⟨v0, vs0, d0, ds0, p0, q0, hargs, rfl, rfl, h0, r0⟩ := trodAll_cons hA
  obtain ⟨v1, vs1, d1, ds1, p1, q1, rfl, rfl, rfl, h1, r1⟩ := trodAll_cons r0
  obtain ⟨v2, vs2, d2, ds2, p2, q2, rfl, rfl, rfl, h2, r2⟩ := trodAll_cons r1
  obtain ⟨rfl, rfl, rfl⟩ := trodAll_nil r2
  obtain rfl : args = #[v0, v1, v2] := by cases args; simp_all
  obtain ⟨rfl, rfl⟩ := trodVars_none hV
  obtain ⟨sd0, ct0, rfl, hd0, bc0, cc0⟩ := open_draw (hval 0 25 v0 rfl rfl) h0
  obtain ⟨x1, rfl, bx1, by1⟩ := open_u8 (hval 1 5 v1 rfl rfl) h1
  obtain ⟨x2, rfl, bx2, by2⟩ := open_i64 (hval 2 3 v2 rfl rfl) h2
  refine (DrawPowers_walk sd0 ct0 x1 x2 W hS hd0 bc0 cc0 bx1 by1).mono fun e W' ⟨he, hU⟩ => ?_
  exact ⟨_, he, law_shut Tryd.underlying4 (by kernel_rfl) rfl rfl laidOut (by kernel_rfl) hW' hU⟩

theorem laid_met (os : Os) : laidMet Tryd.prog Rows.drawPowersRow.laid ((World.laidAll Tryd.prog os laidSha).forCall (fun _ _ => 0) ⟨#[], #[drw zeroH 0, .int .u8 0, .int .i64 0], []⟩).memory :=
  laidMet_laidAll _ (by kernel_rfl) (by kernel_rfl)
theorem reads (os : Os) {H : Type} (enc : TypeId × Value → H) : ∃ places, DataW.whole enc Tryd.prog ((World.laidAll Tryd.prog os laidSha).forCall (fun _ _ => 0) ⟨#[], #[drw zeroH 0, .int .u8 0, .int .i64 0], []⟩).memory Tryd.f3.params.toList Rows.drawPowersSpec.vars false (#[drw zeroH 0, .int .u8 0, .int .i64 0] : Array Value).toList 8 = some ([.agg [.agg [.lit (.int .u8 0), .lit (.int .u8 0), .lit (.int .u8 0), .lit (.int .u8 0), .lit (.int .u8 0), .lit (.int .u8 0), .lit (.int .u8 0), .lit (.int .u8 0), .lit (.int .u8 0), .lit (.int .u8 0), .lit (.int .u8 0), .lit (.int .u8 0), .lit (.int .u8 0), .lit (.int .u8 0), .lit (.int .u8 0), .lit (.int .u8 0), .lit (.int .u8 0), .lit (.int .u8 0), .lit (.int .u8 0), .lit (.int .u8 0), .lit (.int .u8 0), .lit (.int .u8 0), .lit (.int .u8 0), .lit (.int .u8 0), .lit (.int .u8 0), .lit (.int .u8 0), .lit (.int .u8 0), .lit (.int .u8 0), .lit (.int .u8 0), .lit (.int .u8 0), .lit (.int .u8 0), .lit (.int .u8 0)], .lit (.int .i64 0)], .lit (.int .u8 0), .lit (.int .i64 0)], [], places) :=
  ⟨[], by kernel_rfl⟩

set_option maxRecDepth 100000 in
theorem lifted (os : Os) (started : os.Started) (H : Type) (enc : TypeId × Value → H) (F : Stop.Interp) :
    ReturnsInHanded {} Tryd.checked os 3 .any ((OpenSpec.ofChange Rows.drawPowersSpec).preRow enc Tryd.prog Tryd.f3 Rows.drawPowersRow.domain false Rows.drawPowersRow.laid) (((OpenSpec.ofChange Rows.drawPowersSpec).at F).post enc Tryd.prog Tryd.f3 false true false false) := by
  obtain ⟨places, hx⟩ := reads os enc
  refine returnsInHanded_of_row (C := Tryd.checked) (s := OpenSpec.ofChange Rows.drawPowersSpec) own started (by kernel_rfl) Tryd.func3
    (witness_row_at (enc := enc) (C := Tryd.checked) false (World.laidAll Tryd.prog os laidSha) #[drw zeroH 0, .int .u8 0, .int .i64 0] (World.laidAll_os _ _ _) (by kernel_rfl) (by kernel_rfl) (by kernel_rfl)
      (OpenSpec.preRow_of_cond 8 hx (by kernel_rfl) (fun k hk => by cases hk) (by kernel_rfl) (laid_met os))) ?_
  intro W base args ds gs before hval hW _ _ _ hL _ _
  exact contract H enc W base args ds gs before hval hW hL

theorem said : Rows.DrawPowersSaid :=
  OpenClaim.holds_of_cond 3 Tryd.f3 rfl rfl rfl rfl rfl rfl rfl ⟨rfl, rfl, rfl, rfl, rfl⟩ rfl rfl rfl rfl rfl (by kernel_rfl) Tryd.func3 (by kernel_rfl)
    (of_decide_eq_true (by kernel_rfl)) (by unfold Func.isWrapper; first | (rw [if_pos (by decide +kernel)]; kernel_rfl) | (rw [if_neg (by decide +kernel)]; exact ⟨rfl, rfl⟩))
    (fun os started H enc _ F => by rw [OpenClaim.pre_eq_preRow]; exact lifted os started H enc F)

theorem plain (f : FuncId) (fn : Func) (hf : Tryd.pinned.checked.prog.funcNamed "specie/specielaw09.DrawPowers" = some f) (hfn : Tryd.pinned.checked.prog.funcs[f]? = some fn) :
    false = Tryd.pinned.checked.prog.looks [] ∧ ∀ (j : Nat) t, fn.params[j]? = some t → Tryd.pinned.checked.prog.wantsStandIn t = false := by
  obtain rfl : f = 3 := Option.some.inj ((show Tryd.prog.funcNamed "specie/specielaw09.DrawPowers" = some 3 by kernel_rfl).symm.trans hf) |>.symm
  obtain rfl : fn = Tryd.f3 := (Option.some.inj (Tryd.func3.symm.trans hfn)).symm
  refine ⟨by kernel_rfl, fun j t ht => ?_⟩
  have hall : Tryd.f3.params.toList.all (fun t => !Tryd.prog.wantsStandIn t) = true := by kernel_rfl
  have := List.all_eq_true.1 hall t (by rw [← Array.mem_toList_iff.symm]; exact Array.mem_of_getElem? ht)
  exact (by simpa using this : Tryd.prog.wantsStandIn t = false)

/-- The card. -/
theorem card : Rows.DrawPowersCardSaid :=
  Claim7.holds_tied_plain_at .later [] _ _ _ _ said (fun _ h => by cases h) (by kernel_rfl) (fun _ h => by cases h) drawPowers_row_tie rfl ⟨rfl, rfl⟩ (by kernel_rfl) rfl plain (by kernel_rfl)
end Go.Proofs.YtdlcmpbpdbpanaaDoor.lawDrawPowers
