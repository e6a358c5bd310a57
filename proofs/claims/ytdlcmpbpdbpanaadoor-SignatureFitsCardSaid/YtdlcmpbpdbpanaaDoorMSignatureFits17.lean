/- Package draw: a number. Package draw: errors, results. Plain facts on elements of a group. -/
import Derived.Test.YtdlcmpbpdbpanaaDoorMSignatureFits16
import Derived.Test.YtdlcmpbpdbpanaaDoorMSignatureFits1
import Derived.Test.YtdlcmpbpdbpanaaDoorMSignatureFits2
import Derived.Lib.ItoaNum
namespace Go.Proofs.YtdlcmpbpdbpanaaDoor
open Go.RowKit Go.Sp
set_option maxHeartbeats 2000000
set_option maxRecDepth 20000

/-- How many bits are drawn for a number below q. -/
def maskN (q : Int) : Nat := Lib.bitLen (q - 1).toNat
theorem maskN_le {q : Int} (h0 : 1 ≤ q) (h1 : q ≤ 2305843009213693951) : maskN q ≤ 61 ∧ q ≤ 2 ^ maskN q := by
  unfold maskN
  by_cases hq : (q - 1).toNat = 0
  · rw [hq]
    have : Lib.bitLen 0 = 0 := by decide
    rw [this]
    omega
  · have hb := Lib.bitLenAux_bounds 64 (q - 1).toNat (by omega) hq
    change 1 ≤ Lib.bitLen (q - 1).toNat ∧ 2 ^ (Lib.bitLen (q - 1).toNat - 1) ≤ (q - 1).toNat ∧ (q - 1).toNat < 2 ^ Lib.bitLen (q - 1).toNat at hb
    generalize Lib.bitLen (q - 1).toNat = n at *
    obtain ⟨b1, b2, b3⟩ := hb
    constructor
    · refine Nat.le_of_not_lt fun hn => ?_
      have : 2 ^ 61 ≤ 2 ^ (n - 1) := Nat.pow_le_pow_right (by decide) (by omega)
      omega
    · have : ((2 ^ n : Nat) : Int) = 2 ^ n := by simp
      omega

theorem u64_mask (x : Int) (n : Nat) (h0 : 0 ≤ x) (h1 : x < 18446744073709551616) (hn : n ≤ 63) : bits .and .u64 x (2 ^ n - 1) = x % 2 ^ n := by
  obtain ⟨m, rfl⟩ : ∃ m : Nat, x = m := ⟨x.toNat, by omega⟩
  have hp : (2 : Nat) ^ n ≤ 2 ^ 63 := Nat.pow_le_pow_right (by decide) hn
  have hp0 : 0 < (2 : Nat) ^ n := Nat.pow_pos (by decide)
  have e : ((2 : Int) ^ n - 1) = ((2 ^ n - 1 : Nat) : Int) := by
    rw [Int.natCast_sub (by omega)]; simp
  rw [e]
  have := bits_and_u64_nat m (2 ^ n - 1) (by omega) (by omega)
  rw [this, Nat.and_two_pow_sub_one_eq_mod]
  simp

/-- A number below q: the number (the last that was drawn, if all were too great, modulo q), the counter, and whether there was no block. -/
def numT (h : Nat → Int) (q : Int) : Nat → Int → Int → Int × Int × Bool
  | 0, c, x => (x % q, c, false)
  | n + 1, c, _ => if c = 1099511627776 then (0, c, true) else if firK (shaB (posL h c)) 8 % 2 ^ maskN q < q then (firK (shaB (posL h c)) 8 % 2 ^ maskN q, c + 1, false) else numT h q n (c + 1) (firK (shaB (posL h c)) 8 % 2 ^ maskN q)

theorem numT_most {h : Nat → Int} {q : Int} {n : Nat} {c x : Int} (hn : 1 ≤ n) (hc : c = 1099511627776) : numT h q n c x = (0, c, true) := by
  cases n with
  | zero => omega
  | succ n => rw [numT, if_pos hc]
theorem numT_step {h : Nat → Int} {q : Int} {n : Nat} {c x y : Int} (hc : c ≠ 1099511627776) (hy : firK (shaB (posL h c)) 8 % 2 ^ maskN q = y) : numT h q (n + 1) c x = if y < q then (y, c + 1, false) else numT h q n (c + 1) y := by
  rw [numT, if_neg hc, hy]

theorem Blk.grownOut {w w' : World} {g b : Nat} {t : TypeId} {cs : Array Value} (h : Blk w g t cs) (hg : w.grownBy w' (some b)) (hne : g ≠ b) : Blk w' g t cs := h.grown hg (by simpa using hne)

theorem grown_up_trans {a w w' : World} {b : Nat} (h : a.grownBy w (some b)) (hU : Up w w') : a.grownBy w' (some b) := grown_trans h (grown_up hU)

/-- The tables outlive what turns a source. -/
theorem TabS.grown {w w' : World} {b : Nat} {t : TypeId} {h : Nat → Int} {c : Int} {f : Bool} (hT : TabS w) (hb : Blk w b t (srcA h c f)) (hg : w.grownBy w' (some b)) : TabS w' := by
  obtain ⟨⟨t1, fr1, h1⟩, h2⟩ := hT
  have n1 : 0 ≠ b := fun e => by
    have hb' : w.heap[b]? = some (.cells (srcA h c f) t (0, 0)) := hb
    rw [e, hb'] at h1
    simp only [Option.some.injEq, Obj.cells.injEq] at h1
    have := congrArg Array.size h1.1
    rw [srcA_size, stA_size] at this
    omega
  have n2 : 1 ≠ b := fun e => by
    have := h2 0 (by omega)
    rw [e, hb.val ((srcA_drw h c f (by omega)).trans (drwA_get h c (by omega)))] at this
    simp at this
  refine ⟨⟨t1, fr1, ?_⟩, fun i hi => ?_⟩
  · rw [hg.block _ (Array.getElem?_eq_some_iff.1 h1).1 (by simpa using n1)]; exact h1
  · exact hg.cell (h2 i hi) (by simpa using n2)

theorem number_any (h : Nat → Int) (c : Int) (f : Bool) (q : Int) (b : Nat) (w : World) (hT : TabS w) (hB : Byt h) (hb : Blk w b 110 (srcA h c f)) (c0 : 0 ≤ c) (c1 : c ≤ 1099511627776) (hf : f = true → c = 1099511627776) (q0 : 1 ≤ q) (q1 : q ≤ 2305843009213693951) :
    Calls Tryd.prog 62 #[.pointer (some ⟨b, 0, none⟩), .int .i64 q] w fun e w' => e = .returned (.int .i64 (numT h q 256 c 0).1) ∧ Blk w' b 110 (srcA h (numT h q 256 c 0).2.1 (numT h q 256 c 0).2.2) ∧ w.grownBy w' (some b) := by
  obtain ⟨N, hN⟩ : ∃ N, maskN q = N := ⟨_, rfl⟩
  obtain ⟨hn1, hn2⟩ := maskN_le q0 q1
  rw [hN] at hn1 hn2
  have HN := hid hN
  have HN2 := hid hn2
  have hbit : Lib.bitLen (q - 1).toNat = N := hN
  have p0 : (0 : Int) < 2 ^ N := Int.pow_pos (by decide)
  have p1 : (2 : Int) ^ N ≤ 2305843009213693952 := by
    have h1 : (2 : Nat) ^ N ≤ 2 ^ 61 := Nat.pow_le_pow_right (by decide) hn1
    have h2 : ((2 ^ N : Nat) : Int) = 2 ^ N := by simp
    omega
  obtain ⟨M, hM⟩ : ∃ M : Int, 2 ^ N = M := ⟨_, rfl⟩
  obtain ⟨R, hR⟩ : ∃ R, numT h q 256 c 0 = R := ⟨_, rfl⟩
  rw [hR]
  have HR := hid hR
  have HT := hid hT
  have HB := hid hB
  have HBk := hid hb
  have HF := hid hf
  rw [hM] at p0 p1
  have HM := hid hM
  have HLen := hid (fun w' => Tryd.bits_Len64 (q - 1) w' (by omega) (by omega))
  rw [hbit] at HLen
  clear hR hT hB hb hf hM hN hn2 hbit
  go_enter Tryd.func62, Tryd.ntmps62
  go_wp2_with fail
  refine (HLen.out _).mono ?_
  rintro e w1 ⟨rfl, rfl⟩
  go_wp2_with fail
  have hw1 : IntKind.u64.wrap (2 ^ N) = M := by rw [HM.out, IntKind.wrap_u64]; omega
  have hw2 : IntKind.u64.wrap (M - 1) = M - 1 := by rw [IntKind.wrap_u64]; omega
  rw [hw1, hw2]
  obtain ⟨q9, hq9⟩ : ∃ q9, q - 1 = q9 := ⟨_, rfl⟩
  obtain ⟨N9, hN9⟩ : ∃ N9 : Int, (N : Int) = N9 := ⟨_, rfl⟩
  obtain ⟨M9, hM9⟩ : ∃ M9 : Int, M - 1 = M9 := ⟨_, rfl⟩
  have HM9 := hid hM9
  rw [hq9, hN9, hM9]
  have HC : Hid (0 ≤ c ∧ c ≤ 1099511627776) := hid ⟨c0, c1⟩
  have HM0 : Hid (0 < M ∧ M ≤ 2305843009213693952 ∧ N ≤ 61) := hid ⟨p0, p1, hn1⟩
  clear hw1 hw2 hq9 hN9 hM9 HLen p0 p1 hn1 c0 c1
  go_loopw [6, 14] (fun vx vi wr => ∃ (i : Nat) (x d : Int) (g : Bool), i ≤ 256 ∧ vi = .int .i64 i ∧ vx = .int .u64 x ∧ Hid (numT h q (256 - i) d x = R) ∧ Hid (0 ≤ x ∧ x < 2305843009213693952) ∧ Hid (0 ≤ d ∧ d ≤ 1099511627776) ∧ Hid (g = true → d = 1099511627776) ∧ Hid (i = 256 → g = false) ∧ Hid (Blk wr b 110 (srcA h d g)) ∧ Hid (w1.grownBy wr (some b)) ∧ Hid (TabS wr)) (fun _ vi _ => 256 - (intOf vi).toNat)
  case atStart => exact ⟨0, 0, c, f, by omega, rfl, rfl, HR, hid ⟨by omega, by omega⟩, HC, HF, hid (fun h => by omega), HBk, hid (grown_up (Up.refl _)), HT⟩
  case round =>
    clear HC HBk HT HF
    obtain ⟨i, x, d, g, hi, rfl, rfl, HRi, HX, HD, HGf, HL, HBk, HG, HT⟩ := hrel
    by_cases hlt : i < 256
    · obtain ⟨n, hn⟩ : ∃ n, 256 - i = n + 1 := ⟨255 - i, by omega⟩
      have Hn := hid hn
      rw [hn] at HRi
      clear hn
      go_wp2_with fail
      refine (block_any h d g b _ HT.out HB.out HBk.out HD.out.1 HD.out.2).mono ?_
      rintro e w2 ⟨rfl, hB2, hg2⟩
      have HG2 := hid (grown_trans HG.out hg2)
      have HT2 := hid (HT.out.grown HBk.out hg2)
      clear hg2 HBk HG HT
      by_cases hd : d = 1099511627776
      · have hF : blkF d g = true := by rw [blkF, if_pos hd]
        rw [hF] at hB2
        have HB2 := hid hB2
        have hr : R = (0, d, true) := by rw [← HRi.out, numT_most (by omega) hd]
        have hc : blkC d = d := by rw [blkC, if_pos hd]
        rw [hc] at HB2
        subst hr
        clear hB2 hF hc hd
        have f0 := HB2.out.val (srcA_full h d true)
        have l0 := HB2.out.lt
        unfold hashV
        generalize blkB h d = y at *
        go_wp2_with (refine wpList_store_rowTo rfl 23 _ _ rfl rfl _ _ rfl rfl 23 _ (heap_alloc_new _ _) (by rw [arrK_size]; kernel_rfl) (by rw [arrK_size]; rfl) arrK_one ?_; rw [World.setRow_alloc_new])
        go_ret
        exact ⟨rfl, HB2.out.alloc _, grown_up_trans HG2.out ((Up.refl _).alloc _)⟩
      · have hg : g = false := by
          cases g with
          | false => rfl
          | true => exact absurd (HGf.out rfl) hd
        subst hg
        have hF : blkF d false = false := by rw [blkF, if_neg hd]
        have hc : blkC d = d + 1 := by rw [blkC, if_neg hd]
        have hy : blkB h d = shaB (posL h d) := by rw [blkB, if_neg hd]
        rw [hF, hc] at hB2
        rw [hy]
        have HB2 := hid hB2
        have hdd := HD.out
        have HD2 : Hid (0 ≤ d + 1 ∧ d + 1 ≤ 1099511627776) := hid (by omega)
        have HSb := hid (fun (y : Int) hy => numT_step (h := h) (q := q) (n := n) (c := d) (x := x) (y := y) hd hy)
        rw [HRi.out, HN.out, HM.out] at HSb
        obtain ⟨Y, hY⟩ : ∃ Y, shaB (posL h d) = Y := ⟨_, rfl⟩
        have HBY : Hid (Byt Y) := hid (by rw [← hY]; exact shaB_range _)
        rw [hY] at HSb
        rw [hY]
        clear hB2 hF hc hd hdd hy hY HRi HGf HL HD HX
        have f0 := HB2.out.val (srcA_full h (d + 1) false)
        have l0 := HB2.out.lt
        unfold hashV
        go_wp2_with (first
          | (refine wpList_store_rowTo rfl 23 _ _ rfl rfl _ _ rfl rfl 23 _ (heap_alloc_new _ _) (by rw [arrK_size]; kernel_rfl) (by rw [arrK_size]; rfl) arrK_one ?_; rw [World.setRow_alloc_new])
          | (refine wpList_load_row rfl 23 _ rfl w2.heap.size rfl 23 (arrK .u8 Y 32) (0, 0) _ (Blk.new rfl rfl) Tryd.underlying23 rfl (by rw [arrK_size]; kernel_rfl) ?_))
        refine (first_any Y _ HBY.out).mono ?_
        rintro e w3 ⟨rfl, hU3⟩
        have HB3 := hid ((HB2.out.alloc (.cells (arrK .u8 Y 32) 23)).up hU3)
        have HG3 := hid (grown_up_trans (grown_up_trans HG2.out ((Up.refl _).alloc _)) hU3)
        have HT3 := hid ((HT2.out.up ((Up.refl _).alloc _)).up hU3)
        obtain ⟨r0, r1⟩ := firK_range HBY.out 8
        have hmask : bits .and .u64 (firK Y 8) M9 = firK Y 8 % M := by
          rw [← HM9.out, ← HM.out]
          exact u64_mask _ _ r0 r1 (by have := HM0.out.2.2; omega)
        have e0 := Int.emod_nonneg (firK Y 8) (show M ≠ 0 by have := HM0.out.1; omega)
        have e1 := Int.emod_lt_of_pos (firK Y 8) HM0.out.1
        have HSv := hid (HSb.out _ rfl)
        generalize firK Y 8 = z at *
        generalize z % M = y at *
        have e2 : y < 2305843009213693952 := by have := HM0.out.2.1; omega
        clear HB2 HG2 HT2 hU3 f0 l0 HSb r0 r1 e1
        by_cases hq : y < q
        · have d1 : decide (y < q) = true := by simpa using hq
          have hr : R = (y, d + 1, false) := by rw [HSv.out, if_pos hq]
          subst hr
          clear HSv
          go_wp2
          go_ret
          exact ⟨rfl, HB3.out, HG3.out⟩
        · have d1 : decide (y < q) = false := by simpa using hq
          have HRn : Hid (numT h q (256 - (i + 1)) (d + 1) y = R) := hid (by rw [HSv.out, if_neg hq, show 256 - (i + 1) = n by have := Hn.out; omega])
          have HX3 : Hid (0 ≤ y ∧ y < 2305843009213693952) := hid ⟨e0, e2⟩
          clear hq HSv
          go_wp2_with fail
          go_roundw
          case rel => exact ⟨i + 1, y, d + 1, false, by omega, by go_num, rfl, HRn, HX3, HD2, hid (fun h => by cases h), hid (fun _ => rfl), HB3, HG3, HT3⟩
          case measure => simp [intOf]; omega
    · obtain rfl : i = 256 := by omega
      have hg := HL.out rfl
      subst hg
      have hr : R = (x % q, d, false) := HRi.out.symm
      subst hr
      obtain ⟨x0, x1⟩ := HX.out
      have hm0 : (q == 0) = false := by simp; omega
      have htm : x.tmod q = x % q := Int.tmod_eq_emod_of_nonneg x0
      have e0 := Int.emod_nonneg x (show q ≠ 0 by omega)
      have e1 := Int.emod_lt_of_pos x (show 0 < q by omega)
      go_wp2
      go_ret
      exact ⟨rfl, HBk.out, HG.out⟩
end Go.Proofs.YtdlcmpbpdbpanaaDoor
namespace Go.Proofs.YtdlcmpbpdbpanaaDoor
open Go.RowKit Go.Sp
set_option maxHeartbeats 2000000
set_option maxRecDepth 20000

theorem built_src (h : Nat → Int) (c : Int) : Tryd.prog.built 110 [(0, .agg (drwA h c))] = some (srcA h c false) := by kernel_rfl
theorem built_seed (h : Nat → Int) : Tryd.prog.built 25 [(0, .agg (arrK .u8 h 32))] = some (drwA h 0) := by kernel_rfl
theorem built_none : Tryd.prog.built 25 [] = some (drwA zeroH 0) := by kernel_rfl
theorem zero33 : #[.int .u8 0, .int .u8 0, .int .u8 0, .int .u8 0, .int .u8 0, .int .u8 0, .int .u8 0, .int .u8 0, .int .u8 0, .int .u8 0, .int .u8 0, .int .u8 0, .int .u8 0, .int .u8 0, .int .u8 0, .int .u8 0,
    .int .u8 0, .int .u8 0, .int .u8 0, .int .u8 0, .int .u8 0, .int .u8 0, .int .u8 0, .int .u8 0, .int .u8 0, .int .u8 0, .int .u8 0, .int .u8 0, .int .u8 0, .int .u8 0, .int .u8 0, .int .u8 0, .int .i64 0] = drwA zeroH 0 := by kernel_rfl
theorem sizeDrw (h : Nat → Int) (c : Int) : (Tryd.prog.info? 25).map (·.size) = some (drwA h c).size := by rw [drwA_size]; kernel_rfl
theorem sizeSrc (h : Nat → Int) (c : Int) (f : Bool) : (Tryd.prog.info? 110).map (·.size) = some (srcA h c f).size := by rw [srcA_size]; kernel_rfl

/-- The error of a source and a number in a range. -/
def chkE (c n lo hi : Int) : Int := if dvB c = true then (if lo ≤ n ∧ n ≤ hi then 0 else 2) else 1

theorem check_draw_any (h : Nat → Int) (c n lo hi : Int) (w : World) : Calls Tryd.prog 61 #[drw h c, .int .i64 n, .int .i64 lo, .int .i64 hi] w fun e w' => e = .returned (.int .i64 (chkE c n lo hi)) ∧ Up w w' := by
  have HV := hid (fun w' => draValid_any h c w')
  have HE : Hid (chkE c n lo hi = if dvB c = true then (if lo ≤ n ∧ n ≤ hi then 0 else 2) else 1) := hid rfl
  have HS := hid (sizeDrw h c)
  unfold drw at HV ⊢
  generalize chkE c n lo hi = E at *
  generalize drwA h c = cs at *
  go_enter Tryd.func61, Tryd.ntmps61
  go_wp2_with (refine wpList_load_row rfl 25 _ rfl w.heap.size rfl 25 cs (0, 0) _ (Blk.new rfl rfl) Tryd.underlying25 rfl HS.out ?_)
  refine (HV.out _).mono ?_
  rintro e w1 ⟨rfl, hU1⟩
  have HU1 := hid (((Up.refl w).alloc _).trans hU1)
  clear hU1
  by_cases hd : dvB c = true
  · have Hd := hid hd
    rw [hd]
    clear hd
    by_cases h1 : n < lo
    · have d1 : decide (n < lo) = true := by simpa using h1
      have hr : E = 2 := by rw [HE.out, if_pos Hd.out, if_neg (by omega)]
      subst hr
      clear h1
      go_wp2
      go_ret
      exact ⟨rfl, HU1.out⟩
    · have d1 : decide (n < lo) = false := by simpa using h1
      by_cases h2 : n > hi
      · have d2 : decide (n > hi) = true := by simpa using h2
        have hr : E = 2 := by rw [HE.out, if_pos Hd.out, if_neg (by omega)]
        subst hr
        clear h1 h2
        go_wp2
        go_ret
        exact ⟨rfl, HU1.out⟩
      · have d2 : decide (n > hi) = false := by simpa using h2
        have hr : E = 0 := by rw [HE.out, if_pos Hd.out, if_pos (by omega)]
        subst hr
        clear h1 h2
        go_wp2
        go_ret
        exact ⟨rfl, HU1.out⟩
  · have hd' : dvB c = false := by simpa using hd
    have hr : E = 1 := by rw [HE.out, if_neg hd]
    subst hr
    rw [hd']
    clear hd hd'
    go_wp2
    go_ret
    exact ⟨rfl, HU1.out⟩

theorem result_any (h : Nat → Int) (c : Int) (f : Bool) (b : Nat) (w : World) (hb : Blk w b 110 (srcA h c f)) :
    Calls Tryd.prog 63 #[.pointer (some ⟨b, 0, none⟩)] w fun e w' => e = .returned (.tuple #[bif f then drw zeroH 0 else drw h c, .int .i64 (bif f then 5 else 0)]) ∧ Up w w' := by
  have f0 := hb.val (srcA_full h c f)
  have l0 := hb.lt
  have HBk := hid hb
  have hsd : (Tryd.prog.info? 25).map (·.size) = some (drwA h c).toList.length := by rw [Array.length_toList]; exact sizeDrw h c
  cases f with
  | true =>
    clear hb hsd
    go_enter Tryd.func63, Tryd.ntmps63
    go_wp2_with (refine wpList_store_rowTo rfl 25 _ _ rfl rfl w.heap.size (drwA zeroH 0) ?_ ?_ 25 (drwA zeroH 0) ?_ ?_ ?_ ?_ ?_)
    · rfl
    · exact (congrArg Value.agg zero33)
    · exact Blk.new rfl zero33
    · exact sizeDrw _ _
    · rfl
    · exact drwA_one _ _
    refine bodyPost_ret (v := .tuple #[.agg (drwA zeroH 0), .int .i64 5]) (results_row_tmp Tryd.results63 _ _ w.heap.size 25 _ (0, 0) _ (by rfl) ((Blk.new (cs' := drwA zeroH 0) rfl zero33).row _) Tryd.underlying25 rfl (sizeDrw _ _)) rfl ⟨rfl, ((Up.refl w).alloc _).setRow (Nat.le_refl _) _⟩
  | false =>
    clear hb
    go_enter Tryd.func63, Tryd.ntmps63
    go_wp2_with (first
      | (refine wpList_load_mid rfl 25 _ rfl b 0 rfl (drwA h c).toList _ (src_drw (HBk.out.alloc _)) Tryd.underlying25 rfl hsd ?_; rw [Array.toArray_toList])
      | (refine wpList_store_rowTo rfl 25 _ _ rfl rfl _ _ rfl rfl 25 _ (heap_alloc_new _ _) (sizeDrw _ _) (by rw [drwA_size]; rfl) (drwA_one _ _) ?_; rw [World.setRow_alloc_new]))
    refine bodyPost_ret (v := .tuple #[.agg (drwA h c), .int .i64 0]) (results_row_tmp Tryd.results63 _ _ w.heap.size 25 _ (0, 0) _ (by rfl) (Blk.new rfl rfl) Tryd.underlying25 rfl (sizeDrw _ _)) rfl ⟨rfl, (Up.refl w).alloc _⟩
end Go.Proofs.YtdlcmpbpdbpanaaDoor
namespace Go.Sp

theorem pow_zero_base (n : Nat) (h : 1 ≤ n) : (0 : Int) ^ n = 0 := by
  obtain ⟨k, rfl⟩ : ∃ k, n = k + 1 := ⟨n - 1, by omega⟩
  rw [Int.pow_succ]; simp

theorem pw_one_exp {a P : Int} (h0 : 0 ≤ a) (h1 : a < P) : pw a 1 P = a := by
  rw [pw, show a ^ 1 = a by rw [Int.pow_succ]; simp, Int.emod_eq_of_lt h0 h1]

/-- A residue whose power is 1 is an element. -/
theorem el_of {P Q x : Int} (hP : 2 ≤ P) (hQ : 1 ≤ Q) (h : pw (x % P) Q.toNat P = 1) : elB P Q (x % P) = true := by
  have r0 := Int.emod_nonneg x (show P ≠ 0 by omega)
  have r1 := Int.emod_lt_of_pos x (show 0 < P by omega)
  refine el_iff.2 ⟨?_, r1, h⟩
  refine Int.not_lt.1 fun hlt => ?_
  have hz : x % P = 0 := by omega
  rw [hz, pw, pow_zero_base _ (by omega)] at h
  simp at h

theorem el_mul {P Q a b : Int} (hP : 2 ≤ P) (hQ : 1 ≤ Q) (ha : elB P Q a = true) (hb : elB P Q b = true) : elB P Q (a * b % P) = true := by
  refine el_of hP hQ ?_
  rw [pw_prod, (el_iff.1 ha).2.2, (el_iff.1 hb).2.2]
  exact Int.emod_eq_of_lt (by omega) (by omega)

theorem el_pw {P Q a : Int} (hP : 2 ≤ P) (hQ : 1 ≤ Q) (ha : elB P Q a = true) (n : Nat) : elB P Q (pw a n P) = true := by
  refine el_of hP hQ ?_
  show pw (pw a n P) Q.toNat P = 1
  rw [← pw_mul, Nat.mul_comm, pw_mul, (el_iff.1 ha).2.2, pw_one_base]
  exact Int.emod_eq_of_lt (by omega) (by omega)

theorem el_one {P Q : Int} (hP : 2 ≤ P) : elB P Q 1 = true := by
  refine el_iff.2 ⟨by omega, by omega, ?_⟩
  rw [pw_one_base]
  exact Int.emod_eq_of_lt (by omega) (by omega)

theorem mul_assoc' (a b c P : Int) : (a * b % P) * c % P = a * (b * c % P) % P := by
  rw [emul (emod_self (a * b) P) (rfl : c % P = c % P), emul (rfl : a % P = a % P) (emod_self (b * c) P), Int.mul_assoc]

/-- Powers of an element go by the order. -/
theorem pw_mod {P Q a : Int} (hP : 2 ≤ P) (ha : elB P Q a = true) (n : Nat) : pw a (n % Q.toNat) P = pw a n P := by
  have h := (el_iff.1 ha).2.2
  conv => rhs; rw [← Nat.div_add_mod n Q.toNat, pw_add, pw_mul, h, pw_one_base]
  rw [Int.emod_eq_of_lt (show (0 : Int) ≤ 1 by omega) (by omega), Int.one_mul]
  exact (emod_self _ _).symm

end Go.Sp
