/- Package draw: a block. Package draw: a number. Package draw: errors, results. Package prime: Is. The tables that it reads are the program's variables. -/
import Derived.Test.YtdlcmpbpdbpanaaDoorMB7
import Derived.Test.YtdlcmpbpdbpanaaDoorMB1
import Derived.Lib.ItoaNum
import Derived.Laws.Rows
namespace Go.Proofs.YtdlcmpbpdbpanaaDoor
open Go.RowKit Go.Sp
set_option maxHeartbeats 2000000
set_option maxRecDepth 20000

theorem src_drw {w : World} {b : Nat} {t : TypeId} {h : Nat → Int} {c : Int} {f : Bool} (hb : Blk w b t (srcA h c f)) : w.rangeAt b 0 (drwA h c).toList := fun j v hv => by
  rw [Nat.zero_add, hb.read]
  have hj : j < 33 := by
    have := (List.getElem?_eq_some_iff.1 hv).1
    rw [Array.length_toList, drwA_size] at this
    exact this
  rw [srcA_drw _ _ _ hj, ← hv, Array.getElem?_toList]

theorem grown_up {w w' : World} {b : Nat} (hU : Up w w') : w.grownBy w' (some b) := ⟨hU.below.os, hU.below.tape, hU.below.output, hU.size, fun _ hk _ => hU.block hk⟩
theorem grown_trans {a b c : World} {r : Option Nat} (h : a.grownBy b r) (k : b.grownBy c r) : a.grownBy c r :=
  ⟨k.os.trans h.os, k.tape.trans h.tape, k.output.trans h.output, Nat.le_trans h.size k.size, fun i hi hr => (k.block i (Nat.lt_of_lt_of_le hi h.size) hr).trans (h.block i hi hr)⟩
theorem grown_set {a w : World} {b : Nat} (h : a.grownBy w (some b)) (i : Nat) (v : Value) : a.grownBy (w.setCell ⟨b, i, none⟩ v) (some b) :=
  grown_trans h ⟨rfl, rfl, rfl, by simp [World.setCell], fun _ _ hr => Below.heap_setCell w _ v _ (fun e => hr (by rw [e]))⟩
theorem grown_row {a w : World} {b : Nat} (h : a.grownBy w (some b)) {g : Nat} (hg : a.heap.size ≤ g) (cs : Array Value) : a.grownBy (w.setRow g cs) (some b) := by
  have hz := below_setRow ((Up.refl w).below.mono (Nat.zero_le _)) (B := 0) (g := g) (Nat.zero_le _) cs
  exact ⟨hz.os.trans h.os, hz.tape.trans h.tape, hz.output.trans h.output, Nat.le_trans h.size hz.size, fun k hk hr => (setRow_other w g k cs (by omega)).trans (h.block k hk hr)⟩

/-- A digest of zeros. -/
def zeroH : Nat → Int := fun _ => 0
/-- A block of a source, the counter after it, and whether there was none. -/
def blkB (h : Nat → Int) (c : Int) : Nat → Int := if c = 1099511627776 then zeroH else shaB (posL h c)
def blkC (c : Int) : Int := if c = 1099511627776 then c else c + 1
def blkF (c : Int) (f : Bool) : Bool := if c = 1099511627776 then true else f

theorem posL_byt {h : Nat → Int} (hB : Byt h) (c : Int) : ∀ x ∈ posL h c, 0 ≤ x ∧ x ≤ 255 := by
  intro x hx
  simp only [posL, List.mem_append, hList, List.mem_map] at hx
  rcases hx with ⟨i, _, rfl⟩ | hx
  · exact hB i
  · exact beL_byt _ _ x hx

theorem block_any (h : Nat → Int) (c : Int) (f : Bool) (b : Nat) (w : World) (hT : TabS w) (hB : Byt h) (hb : Blk w b 110 (srcA h c f)) (c0 : 0 ≤ c) (c1 : c ≤ 1099511627776) :
    Calls Tryd.prog 64 #[.pointer (some ⟨b, 0, none⟩)] w fun e w' => e = .returned (hashV (blkB h c)) ∧ Blk w' b 110 (srcA h (blkC c) (blkF c f)) ∧ w.grownBy w' (some b) := by
  have q0 := hb.val (srcA_ctr h c f)
  have y0 := hb.thawed 32
  have l0 := hb.lt
  have HBk := hid hb
  by_cases hc : c = 1099511627776
  · have HF : Hid (blkB h c = zeroH ∧ blkC c = c ∧ blkF c f = true) := hid ⟨by rw [blkB, if_pos hc], by rw [blkC, if_pos hc], by rw [blkF, if_pos hc]⟩
    have d0 : (c == 1099511627776) = true := by simpa using hc
    have q1 := hb.val (srcA_full h c f)
    have y1 := hb.thawed 33
    have HS := hid (srcA_setFull h c f true)
    clear hb hc c0 c1 hT
    go_enter Tryd.func64, Tryd.ntmps64
    have hsz : (w.setCell ⟨b, 33, none⟩ (.bool true)).heap.size = w.heap.size := by simp
    go_wp2_with (refine wpList_store_rowTo rfl 23 _ _ rfl rfl w.heap.size (arrK .u8 (fun _ => 0) 32) ?_ ?_ 23 (arrK .u8 (fun _ => 0) 32) ?_ ?_ ?_ ?_ ?_)
    · rfl
    · exact (congrArg Value.agg zero32)
    · exact Blk.new hsz zero32
    · rw [arrK_size]; kernel_rfl
    · rfl
    · exact arrK_one
    have hW : Blk (w.setCell ⟨b, 33, none⟩ (.bool true)) b 110 (srcA h c true) := by
      rw [← HS.out]; exact HBk.out.wrote _ _
    have hG := grown_set (grown_up (b := b) (Up.refl w)) 33 (.bool true)
    generalize w.setCell ⟨b, 33, none⟩ (.bool true) = w1 at *
    refine bodyPost_ret (v := .agg (arrK .u8 (fun _ => 0) 32)) (results_cell_row rfl _ _ w.heap.size 23 _ (0, 0) _ (by rfl) ((Blk.new (cs' := arrK .u8 (fun _ => 0) 32) hsz zero32).row _) Tryd.underlying23 rfl (by rw [arrK_size]; kernel_rfl)) rfl ⟨by rw [HF.out.1]; rfl, ?_, ?_⟩
    · rw [HF.out.2.1, HF.out.2.2]
      exact (hW.alloc _).rowApart (by omega) _
    · exact grown_row (grown_trans hG (grown_up ((Up.refl _).alloc _))) (Nat.le_refl _) _
  · have HF : Hid (blkB h c = shaB (posL h c) ∧ blkC c = c + 1 ∧ blkF c f = f) := hid ⟨by rw [blkB, if_neg hc], by rw [blkC, if_neg hc], by rw [blkF, if_neg hc]⟩
    have d0 : (c == 1099511627776) = false := by simpa using hc
    have HS := hid (srcA_setCtr h c (c + 1) f)
    have hsd : (Tryd.prog.info? 25).map (·.size) = some (drwA h c).toList.length := by rw [Array.length_toList, drwA_size]; kernel_rfl
    have HByt := hid (posL_byt hB c)
    have HLen := hid (posL_length h c)
    have HT := hid hT
    clear hb hc hT
    go_enter Tryd.func64, Tryd.ntmps64
    go_wp2_with (refine wpList_load_mid rfl 25 _ rfl b 0 rfl (drwA h c).toList _ (src_drw (HBk.out.alloc _)) Tryd.underlying25 rfl hsd ?_; rw [Array.toArray_toList])
    refine (position_any h c _).mono ?_
    rintro e w1 ⟨v1, rfl, hO1, hU1⟩
    have HO1 := hid hO1.seq
    have HZ1 : Hid (Blk w1 w.heap.size 23 (arrK .u8 (fun _ => 0) 32)) := hid ((Blk.new rfl zero32).up hU1)
    have HB1 := hid ((HBk.out.alloc _).up hU1)
    have HU1 := hid (((Up.refl w).alloc _).trans hU1)
    obtain ⟨o, ho⟩ : ∃ o, w.heap.size = o := ⟨_, rfl⟩
    rw [ho] at HZ1 l0
    have HOo := hid ho
    rw [ho]
    clear hU1 hO1 ho q0 y0
    go_wp2_with fail
    refine (Sum_any _ (posL h c) _ (HT.out.up HU1.out) HO1.out (by rw [HLen.out]; omega) HByt.out).mono ?_
    rintro e w2 ⟨rfl, hU2⟩
    have HZ2 := hid (HZ1.out.up hU2)
    have HB2 := hid (HB1.out.up hU2)
    have HU2 := hid (HU1.out.trans hU2)
    clear hU2 HZ1 HB1 HU1 HO1
    have q0 := HB2.out.val (srcA_ctr h c f)
    have y0 := HB2.out.thawed 32
    have lb := HB2.out.lt
    have lz := HZ2.out.lt
    have hne : b ≠ o := by omega
    have hszz : (w2.setCell ⟨b, 32, none⟩ (.int .i64 (c + 1))).heap.size = w2.heap.size := by simp
    have hW : Blk (w2.setCell ⟨b, 32, none⟩ (.int .i64 (c + 1))) b 110 (srcA h (c + 1) f) := by
      rw [← HS.out]; exact HB2.out.wrote _ _
    have HW := hid hW
    have HZ3 := hid (HZ2.out.apart (a := ⟨b, 32, none⟩) (Ne.symm hne) (.int .i64 (c + 1)))
    have HG := hid (grown_set (grown_up (b := b) HU2.out) 32 (.int .i64 (c + 1)))
    clear hW
    unfold hashV
    go_wp2_with (first
      | (refine wpList_load_row rfl 23 _ rfl w2.heap.size rfl 23 (arrK .u8 (shaB (posL h c)) 32) (0, 0) _ (Blk.new hszz rfl) Tryd.underlying23 rfl (by rw [arrK_size]; kernel_rfl) ?_)
      | (refine wpList_store_rowTo rfl 23 _ _ rfl rfl _ _ rfl rfl 23 _ (heap_alloc_new _ _) (by rw [arrK_size]; kernel_rfl) (by rw [arrK_size]; rfl) arrK_one ?_; rw [World.setRow_alloc_new])
      | (refine wpList_store_rowTo rfl 23 _ _ rfl rfl o (arrK .u8 (shaB (posL h c)) 32) rfl rfl 23 (arrK .u8 (fun _ => 0) 32) (HZ3.out.alloc _) (by rw [arrK_size]; kernel_rfl) (by rw [arrK_size, arrK_size]) arrK_one ?_))
    refine bodyPost_ret (v := .agg (arrK .u8 (shaB (posL h c)) 32)) (results_cell_row rfl _ _ o 23 _ (0, 0) _ (by rfl) ((HZ3.out.alloc _).row _) Tryd.underlying23 rfl (by rw [arrK_size]; kernel_rfl)) rfl ⟨by rw [HF.out.1]; rfl, ?_, ?_⟩
    · rw [HF.out.2.1, HF.out.2.2]
      exact (HW.out.alloc _).rowApart hne _
    · exact grown_row (grown_trans HG.out (grown_up ((Up.refl _).alloc _))) (by have := HOo.out; omega) _
end Go.Proofs.YtdlcmpbpdbpanaaDoor
namespace Go.Proofs.YtdlcmpbpdbpanaaDoor
open Go.RowKit Go.Sp
set_option maxHeartbeats 2000000
set_option maxRecDepth 20000

/-- How many bits are drawn for a number below q. -/
def maskN (q : Int) : Nat := Lib.bitLen (q - 1).toNat
theorem maskN_le {q : Int} (h0 : 1 ≤ q) (h1 : q ≤ 2305843009213693951) : maskN q ≤ 61 ∧ q ≤ 2 ^ maskN q := by
  unfold maskN
  by_cases hq : (q - 1).toNat = 0
  · rw [hq]
    have : Lib.bitLen 0 = 0 := by decide
    rw [this]
    omega
  · have hb := Lib.bitLenAux_bounds 64 (q - 1).toNat (by omega) hq
    change 1 ≤ Lib.bitLen (q - 1).toNat ∧ 2 ^ (Lib.bitLen (q - 1).toNat - 1) ≤ (q - 1).toNat ∧ (q - 1).toNat < 2 ^ Lib.bitLen (q - 1).toNat at hb
    generalize Lib.bitLen (q - 1).toNat = n at *
    obtain ⟨b1, b2, b3⟩ := hb
    constructor
    · refine Nat.le_of_not_lt fun hn => ?_
      have : 2 ^ 61 ≤ 2 ^ (n - 1) := Nat.pow_le_pow_right (by decide) (by omega)
      omega
    · have : ((2 ^ n : Nat) : Int) = 2 ^ n := by simp
      omega

theorem u64_mask (x : Int) (n : Nat) (h0 : 0 ≤ x) (h1 : x < 18446744073709551616) (hn : n ≤ 63) : bits .and .u64 x (2 ^ n - 1) = x % 2 ^ n := by
  obtain ⟨m, rfl⟩ : ∃ m : Nat, x = m := ⟨x.toNat, by omega⟩
  have hp : (2 : Nat) ^ n ≤ 2 ^ 63 := Nat.pow_le_pow_right (by decide) hn
  have hp0 : 0 < (2 : Nat) ^ n := Nat.pow_pos (by decide)
  have e : ((2 : Int) ^ n - 1) = ((2 ^ n - 1 : Nat) : Int) := by
    rw [Int.natCast_sub (by omega)]; simp
  rw [e]
  have := bits_and_u64_nat m (2 ^ n - 1) (by omega) (by omega)
  rw [this, Nat.and_two_pow_sub_one_eq_mod]
  simp

/-- A number below q: the number (the last that was drawn, if all were too great, modulo q), the counter, and whether there was no block. -/
def numT (h : Nat → Int) (q : Int) : Nat → Int → Int → Int × Int × Bool
  | 0, c, x => (x % q, c, false)
  | n + 1, c, _ => if c = 1099511627776 then (0, c, true) else if firK (shaB (posL h c)) 8 % 2 ^ maskN q < q then (firK (shaB (posL h c)) 8 % 2 ^ maskN q, c + 1, false) else numT h q n (c + 1) (firK (shaB (posL h c)) 8 % 2 ^ maskN q)

theorem numT_most {h : Nat → Int} {q : Int} {n : Nat} {c x : Int} (hn : 1 ≤ n) (hc : c = 1099511627776) : numT h q n c x = (0, c, true) := by
  cases n with
  | zero => omega
  | succ n => rw [numT, if_pos hc]
theorem numT_step {h : Nat → Int} {q : Int} {n : Nat} {c x y : Int} (hc : c ≠ 1099511627776) (hy : firK (shaB (posL h c)) 8 % 2 ^ maskN q = y) : numT h q (n + 1) c x = if y < q then (y, c + 1, false) else numT h q n (c + 1) y := by
  rw [numT, if_neg hc, hy]

theorem Blk.grownOut {w w' : World} {g b : Nat} {t : TypeId} {cs : Array Value} (h : Blk w g t cs) (hg : w.grownBy w' (some b)) (hne : g ≠ b) : Blk w' g t cs := h.grown hg (by simpa using hne)

theorem grown_up_trans {a w w' : World} {b : Nat} (h : a.grownBy w (some b)) (hU : Up w w') : a.grownBy w' (some b) := grown_trans h (grown_up hU)

/-- The tables outlive what turns a source. -/
theorem TabS.grown {w w' : World} {b : Nat} {t : TypeId} {h : Nat → Int} {c : Int} {f : Bool} (hT : TabS w) (hb : Blk w b t (srcA h c f)) (hg : w.grownBy w' (some b)) : TabS w' := by
  obtain ⟨⟨t1, fr1, h1⟩, h2⟩ := hT
  have n1 : 0 ≠ b := fun e => by
    have hb' : w.heap[b]? = some (.cells (srcA h c f) t (0, 0)) := hb
    rw [e, hb'] at h1
    simp only [Option.some.injEq, Obj.cells.injEq] at h1
    have := congrArg Array.size h1.1
    rw [srcA_size, stA_size] at this
    omega
  have n2 : 1 ≠ b := fun e => by
    have := h2 0 (by omega)
    rw [e, hb.val ((srcA_drw h c f (by omega)).trans (drwA_get h c (by omega)))] at this
    simp at this
  refine ⟨⟨t1, fr1, ?_⟩, fun i hi => ?_⟩
  · rw [hg.block _ (Array.getElem?_eq_some_iff.1 h1).1 (by simpa using n1)]; exact h1
  · exact hg.cell (h2 i hi) (by simpa using n2)

theorem number_any (h : Nat → Int) (c : Int) (f : Bool) (q : Int) (b : Nat) (w : World) (hT : TabS w) (hB : Byt h) (hb : Blk w b 110 (srcA h c f)) (c0 : 0 ≤ c) (c1 : c ≤ 1099511627776) (hf : f = true → c = 1099511627776) (q0 : 1 ≤ q) (q1 : q ≤ 2305843009213693951) :
    Calls Tryd.prog 62 #[.pointer (some ⟨b, 0, none⟩), .int .i64 q] w fun e w' => e = .returned (.int .i64 (numT h q 256 c 0).1) ∧ Blk w' b 110 (srcA h (numT h q 256 c 0).2.1 (numT h q 256 c 0).2.2) ∧ w.grownBy w' (some b) := by
  obtain ⟨N, hN⟩ : ∃ N, maskN q = N := ⟨_, rfl⟩
  obtain ⟨hn1, hn2⟩ := maskN_le q0 q1
  rw [hN] at hn1 hn2
  have HN := hid hN
  have HN2 := hid hn2
  have hbit : Lib.bitLen (q - 1).toNat = N := hN
  have p0 : (0 : Int) < 2 ^ N := Int.pow_pos (by decide)
  have p1 : (2 : Int) ^ N ≤ 2305843009213693952 := by
    have h1 : (2 : Nat) ^ N ≤ 2 ^ 61 := Nat.pow_le_pow_right (by decide) hn1
    have h2 : ((2 ^ N : Nat) : Int) = 2 ^ N := by simp
    omega
  obtain ⟨M, hM⟩ : ∃ M : Int, 2 ^ N = M := ⟨_, rfl⟩
  obtain ⟨R, hR⟩ : ∃ R, numT h q 256 c 0 = R := ⟨_, rfl⟩
  rw [hR]
  have HR := hid hR
  have HT := hid hT
  have HB := hid hB
  have HBk := hid hb
  have HF := hid hf
  rw [hM] at p0 p1
  have HM := hid hM
  have HLen := hid (fun w' => Tryd.bits_Len64 (q - 1) w' (by omega) (by omega))
  rw [hbit] at HLen
  clear hR hT hB hb hf hM hN hn2 hbit
  go_enter Tryd.func62, Tryd.ntmps62
  go_wp2_with fail
  refine (HLen.out _).mono ?_
  rintro e w1 ⟨rfl, rfl⟩
  go_wp2_with fail
  have hw1 : IntKind.u64.wrap (2 ^ N) = M := by rw [HM.out, IntKind.wrap_u64]; omega
  have hw2 : IntKind.u64.wrap (M - 1) = M - 1 := by rw [IntKind.wrap_u64]; omega
  rw [hw1, hw2]
  obtain ⟨q9, hq9⟩ : ∃ q9, q - 1 = q9 := ⟨_, rfl⟩
  obtain ⟨N9, hN9⟩ : ∃ N9 : Int, (N : Int) = N9 := ⟨_, rfl⟩
  obtain ⟨M9, hM9⟩ : ∃ M9 : Int, M - 1 = M9 := ⟨_, rfl⟩
  have HM9 := hid hM9
  rw [hq9, hN9, hM9]
  have HC : Hid (0 ≤ c ∧ c ≤ 1099511627776) := hid ⟨c0, c1⟩
  have HM0 : Hid (0 < M ∧ M ≤ 2305843009213693952 ∧ N ≤ 61) := hid ⟨p0, p1, hn1⟩
  clear hw1 hw2 hq9 hN9 hM9 HLen p0 p1 hn1 c0 c1
  go_loopw [6, 14] (fun vx vi wr => ∃ (i : Nat) (x d : Int) (g : Bool), i ≤ 256 ∧ vi = .int .i64 i ∧ vx = .int .u64 x ∧ Hid (numT h q (256 - i) d x = R) ∧ Hid (0 ≤ x ∧ x < 2305843009213693952) ∧ Hid (0 ≤ d ∧ d ≤ 1099511627776) ∧ Hid (g = true → d = 1099511627776) ∧ Hid (i = 256 → g = false) ∧ Hid (Blk wr b 110 (srcA h d g)) ∧ Hid (w1.grownBy wr (some b)) ∧ Hid (TabS wr)) (fun _ vi _ => 256 - (intOf vi).toNat)
  case atStart => exact ⟨0, 0, c, f, by omega, rfl, rfl, HR, hid ⟨by omega, by omega⟩, HC, HF, hid (fun h => by omega), HBk, hid (grown_up (Up.refl _)), HT⟩
  case round =>
    clear HC HBk HT HF
    obtain ⟨i, x, d, g, hi, rfl, rfl, HRi, HX, HD, HGf, HL, HBk, HG, HT⟩ := hrel
    by_cases hlt : i < 256
    · obtain ⟨n, hn⟩ : ∃ n, 256 - i = n + 1 := ⟨255 - i, by omega⟩
      have Hn := hid hn
      rw [hn] at HRi
      clear hn
      go_wp2_with fail
      refine (block_any h d g b _ HT.out HB.out HBk.out HD.out.1 HD.out.2).mono ?_
      rintro e w2 ⟨rfl, hB2, hg2⟩
      have HG2 := hid (grown_trans HG.out hg2)
      have HT2 := hid (HT.out.grown HBk.out hg2)
      clear hg2 HBk HG HT
      by_cases hd : d = 1099511627776
      · have hF : blkF d g = true := by rw [blkF, if_pos hd]
        rw [hF] at hB2
        have HB2 := hid hB2
        have hr : R = (0, d, true) := by rw [← HRi.out, numT_most (by omega) hd]
        have hc : blkC d = d := by rw [blkC, if_pos hd]
        rw [hc] at HB2
        subst hr
        clear hB2 hF hc hd
        have f0 := HB2.out.val (srcA_full h d true)
        have l0 := HB2.out.lt
        unfold hashV
        generalize blkB h d = y at *
        go_wp2_with (refine wpList_store_rowTo rfl 23 _ _ rfl rfl _ _ rfl rfl 23 _ (heap_alloc_new _ _) (by rw [arrK_size]; kernel_rfl) (by rw [arrK_size]; rfl) arrK_one ?_; rw [World.setRow_alloc_new])
        go_ret
        exact ⟨rfl, HB2.out.alloc _, grown_up_trans HG2.out ((Up.refl _).alloc _)⟩
      · have hg : g = false := by
          cases g with
          | false => rfl
          | true => exact absurd (HGf.out rfl) hd
        subst hg
        have hF : blkF d false = false := by rw [blkF, if_neg hd]
        have hc : blkC d = d + 1 := by rw [blkC, if_neg hd]
        have hy : blkB h d = shaB (posL h d) := by rw [blkB, if_neg hd]
        rw [hF, hc] at hB2
        rw [hy]
        have HB2 := hid hB2
        have hdd := HD.out
        have HD2 : Hid (0 ≤ d + 1 ∧ d + 1 ≤ 1099511627776) := hid (by omega)
        have HSb := hid (fun (y : Int) hy => numT_step (h := h) (q := q) (n := n) (c := d) (x := x) (y := y) hd hy)
        rw [HRi.out, HN.out, HM.out] at HSb
        obtain ⟨Y, hY⟩ : ∃ Y, shaB (posL h d) = Y := ⟨_, rfl⟩
        have HBY : Hid (Byt Y) := hid (by rw [← hY]; exact shaB_range _)
        rw [hY] at HSb
        rw [hY]
        clear hB2 hF hc hd hdd hy hY HRi HGf HL HD HX
        have f0 := HB2.out.val (srcA_full h (d + 1) false)
        have l0 := HB2.out.lt
        unfold hashV
        go_wp2_with (first
          | (refine wpList_store_rowTo rfl 23 _ _ rfl rfl _ _ rfl rfl 23 _ (heap_alloc_new _ _) (by rw [arrK_size]; kernel_rfl) (by rw [arrK_size]; rfl) arrK_one ?_; rw [World.setRow_alloc_new])
          | (refine wpList_load_row rfl 23 _ rfl w2.heap.size rfl 23 (arrK .u8 Y 32) (0, 0) _ (Blk.new rfl rfl) Tryd.underlying23 rfl (by rw [arrK_size]; kernel_rfl) ?_))
        refine (first_any Y _ HBY.out).mono ?_
        rintro e w3 ⟨rfl, hU3⟩
        have HB3 := hid ((HB2.out.alloc (.cells (arrK .u8 Y 32) 23)).up hU3)
        have HG3 := hid (grown_up_trans (grown_up_trans HG2.out ((Up.refl _).alloc _)) hU3)
        have HT3 := hid ((HT2.out.up ((Up.refl _).alloc _)).up hU3)
        obtain ⟨r0, r1⟩ := firK_range HBY.out 8
        have hmask : bits .and .u64 (firK Y 8) M9 = firK Y 8 % M := by
          rw [← HM9.out, ← HM.out]
          exact u64_mask _ _ r0 r1 (by have := HM0.out.2.2; omega)
        have e0 := Int.emod_nonneg (firK Y 8) (show M ≠ 0 by have := HM0.out.1; omega)
        have e1 := Int.emod_lt_of_pos (firK Y 8) HM0.out.1
        have HSv := hid (HSb.out _ rfl)
        generalize firK Y 8 = z at *
        generalize z % M = y at *
        have e2 : y < 2305843009213693952 := by have := HM0.out.2.1; omega
        clear HB2 HG2 HT2 hU3 f0 l0 HSb r0 r1 e1
        by_cases hq : y < q
        · have d1 : decide (y < q) = true := by simpa using hq
          have hr : R = (y, d + 1, false) := by rw [HSv.out, if_pos hq]
          subst hr
          clear HSv
          go_wp2
          go_ret
          exact ⟨rfl, HB3.out, HG3.out⟩
        · have d1 : decide (y < q) = false := by simpa using hq
          have HRn : Hid (numT h q (256 - (i + 1)) (d + 1) y = R) := hid (by rw [HSv.out, if_neg hq, show 256 - (i + 1) = n by have := Hn.out; omega])
          have HX3 : Hid (0 ≤ y ∧ y < 2305843009213693952) := hid ⟨e0, e2⟩
          clear hq HSv
          go_wp2_with fail
          go_roundw
          case rel => exact ⟨i + 1, y, d + 1, false, by omega, by go_num, rfl, HRn, HX3, HD2, hid (fun h => by cases h), hid (fun _ => rfl), HB3, HG3, HT3⟩
          case measure => simp [intOf]; omega
    · obtain rfl : i = 256 := by omega
      have hg := HL.out rfl
      subst hg
      have hr : R = (x % q, d, false) := HRi.out.symm
      subst hr
      obtain ⟨x0, x1⟩ := HX.out
      have hm0 : (q == 0) = false := by simp; omega
      have htm : x.tmod q = x % q := Int.tmod_eq_emod_of_nonneg x0
      have e0 := Int.emod_nonneg x (show q ≠ 0 by omega)
      have e1 := Int.emod_lt_of_pos x (show 0 < q by omega)
      go_wp2
      go_ret
      exact ⟨rfl, HBk.out, HG.out⟩
end Go.Proofs.YtdlcmpbpdbpanaaDoor
namespace Go.Proofs.YtdlcmpbpdbpanaaDoor
open Go.RowKit Go.Sp
set_option maxHeartbeats 2000000
set_option maxRecDepth 20000

theorem built_src (h : Nat → Int) (c : Int) : Tryd.prog.built 110 [(0, .agg (drwA h c))] = some (srcA h c false) := by kernel_rfl
theorem built_seed (h : Nat → Int) : Tryd.prog.built 25 [(0, .agg (arrK .u8 h 32))] = some (drwA h 0) := by kernel_rfl
theorem built_none : Tryd.prog.built 25 [] = some (drwA zeroH 0) := by kernel_rfl
theorem zero33 : #[.int .u8 0, .int .u8 0, .int .u8 0, .int .u8 0, .int .u8 0, .int .u8 0, .int .u8 0, .int .u8 0, .int .u8 0, .int .u8 0, .int .u8 0, .int .u8 0, .int .u8 0, .int .u8 0, .int .u8 0, .int .u8 0,
    .int .u8 0, .int .u8 0, .int .u8 0, .int .u8 0, .int .u8 0, .int .u8 0, .int .u8 0, .int .u8 0, .int .u8 0, .int .u8 0, .int .u8 0, .int .u8 0, .int .u8 0, .int .u8 0, .int .u8 0, .int .u8 0, .int .i64 0] = drwA zeroH 0 := by kernel_rfl
theorem sizeDrw (h : Nat → Int) (c : Int) : (Tryd.prog.info? 25).map (·.size) = some (drwA h c).size := by rw [drwA_size]; kernel_rfl
theorem sizeSrc (h : Nat → Int) (c : Int) (f : Bool) : (Tryd.prog.info? 110).map (·.size) = some (srcA h c f).size := by rw [srcA_size]; kernel_rfl

/-- The error of a source and a number in a range. -/
def chkE (c n lo hi : Int) : Int := if dvB c = true then (if lo ≤ n ∧ n ≤ hi then 0 else 2) else 1

theorem check_draw_any (h : Nat → Int) (c n lo hi : Int) (w : World) : Calls Tryd.prog 61 #[drw h c, .int .i64 n, .int .i64 lo, .int .i64 hi] w fun e w' => e = .returned (.int .i64 (chkE c n lo hi)) ∧ Up w w' := by
  have HV := hid (fun w' => draValid_any h c w')
  have HE : Hid (chkE c n lo hi = if dvB c = true then (if lo ≤ n ∧ n ≤ hi then 0 else 2) else 1) := hid rfl
  have HS := hid (sizeDrw h c)
  unfold drw at HV ⊢
  generalize chkE c n lo hi = E at *
  generalize drwA h c = cs at *
  go_enter Tryd.func61, Tryd.ntmps61
  go_wp2_with (refine wpList_load_row rfl 25 _ rfl w.heap.size rfl 25 cs (0, 0) _ (Blk.new rfl rfl) Tryd.underlying25 rfl HS.out ?_)
  refine (HV.out _).mono ?_
  rintro e w1 ⟨rfl, hU1⟩
  have HU1 := hid (((Up.refl w).alloc _).trans hU1)
  clear hU1
  by_cases hd : dvB c = true
  · have Hd := hid hd
    rw [hd]
    clear hd
    by_cases h1 : n < lo
    · have d1 : decide (n < lo) = true := by simpa using h1
      have hr : E = 2 := by rw [HE.out, if_pos Hd.out, if_neg (by omega)]
      subst hr
      clear h1
      go_wp2
      go_ret
      exact ⟨rfl, HU1.out⟩
    · have d1 : decide (n < lo) = false := by simpa using h1
      by_cases h2 : n > hi
      · have d2 : decide (n > hi) = true := by simpa using h2
        have hr : E = 2 := by rw [HE.out, if_pos Hd.out, if_neg (by omega)]
        subst hr
        clear h1 h2
        go_wp2
        go_ret
        exact ⟨rfl, HU1.out⟩
      · have d2 : decide (n > hi) = false := by simpa using h2
        have hr : E = 0 := by rw [HE.out, if_pos Hd.out, if_pos (by omega)]
        subst hr
        clear h1 h2
        go_wp2
        go_ret
        exact ⟨rfl, HU1.out⟩
  · have hd' : dvB c = false := by simpa using hd
    have hr : E = 1 := by rw [HE.out, if_neg hd]
    subst hr
    rw [hd']
    clear hd hd'
    go_wp2
    go_ret
    exact ⟨rfl, HU1.out⟩

theorem result_any (h : Nat → Int) (c : Int) (f : Bool) (b : Nat) (w : World) (hb : Blk w b 110 (srcA h c f)) :
    Calls Tryd.prog 63 #[.pointer (some ⟨b, 0, none⟩)] w fun e w' => e = .returned (.tuple #[bif f then drw zeroH 0 else drw h c, .int .i64 (bif f then 5 else 0)]) ∧ Up w w' := by
  have f0 := hb.val (srcA_full h c f)
  have l0 := hb.lt
  have HBk := hid hb
  have hsd : (Tryd.prog.info? 25).map (·.size) = some (drwA h c).toList.length := by rw [Array.length_toList]; exact sizeDrw h c
  cases f with
  | true =>
    clear hb hsd
    go_enter Tryd.func63, Tryd.ntmps63
    go_wp2_with (refine wpList_store_rowTo rfl 25 _ _ rfl rfl w.heap.size (drwA zeroH 0) ?_ ?_ 25 (drwA zeroH 0) ?_ ?_ ?_ ?_ ?_)
    · rfl
    · exact (congrArg Value.agg zero33)
    · exact Blk.new rfl zero33
    · exact sizeDrw _ _
    · rfl
    · exact drwA_one _ _
    refine bodyPost_ret (v := .tuple #[.agg (drwA zeroH 0), .int .i64 5]) (results_row_tmp Tryd.results63 _ _ w.heap.size 25 _ (0, 0) _ (by rfl) ((Blk.new (cs' := drwA zeroH 0) rfl zero33).row _) Tryd.underlying25 rfl (sizeDrw _ _)) rfl ⟨rfl, ((Up.refl w).alloc _).setRow (Nat.le_refl _) _⟩
  | false =>
    clear hb
    go_enter Tryd.func63, Tryd.ntmps63
    go_wp2_with (first
      | (refine wpList_load_mid rfl 25 _ rfl b 0 rfl (drwA h c).toList _ (src_drw (HBk.out.alloc _)) Tryd.underlying25 rfl hsd ?_; rw [Array.toArray_toList])
      | (refine wpList_store_rowTo rfl 25 _ _ rfl rfl _ _ rfl rfl 25 _ (heap_alloc_new _ _) (sizeDrw _ _) (by rw [drwA_size]; rfl) (drwA_one _ _) ?_; rw [World.setRow_alloc_new]))
    refine bodyPost_ret (v := .tuple #[.agg (drwA h c), .int .i64 0]) (results_row_tmp Tryd.results63 _ _ w.heap.size 25 _ (0, 0) _ (by rfl) (Blk.new rfl rfl) Tryd.underlying25 rfl (sizeDrw _ _)) rfl ⟨rfl, (Up.refl w).alloc _⟩
end Go.Proofs.YtdlcmpbpdbpanaaDoor
namespace Go.Proofs.YtdlcmpbpdbpanaaDoor
open Go.RowKit Go.Sp
set_option maxHeartbeats 400000

def basesCells : Array Value := #[.int .u64 2, .int .u64 3, .int .u64 5, .int .u64 7, .int .u64 11, .int .u64 13, .int .u64 17, .int .u64 19, .int .u64 23, .int .u64 29, .int .u64 31, .int .u64 37]

/-- The variables hold what the program's text lays. -/
def Tab (w : World) : Prop :=
  (∃ t fr, w.heap[2]? = some (.cells basesCells t fr)) ∧ ∀ i, i < 64 → w.cell? ⟨3, i, none⟩ = some (.int .u8 (Lib.deBruijn64tab.getD i 0))

theorem Tab.up {w w' : World} (h : Tab w) (hU : Up w w') : Tab w' := by
  obtain ⟨⟨t, fr, h1⟩, h2⟩ := h
  have s1 : 2 < w.heap.size := (Array.getElem?_eq_some_iff.1 h1).1
  have s2 : 3 < w.heap.size := by
    have := h2 0 (by omega)
    unfold World.cell? at this
    split at this
    · rename_i h3; exact (Array.getElem?_eq_some_iff.1 h3).1
    · cases this
  exact ⟨⟨t, fr, by rw [hU.block s1]; exact h1⟩, fun i hi => by rw [hU.cell s2]; exact h2 i hi⟩

theorem tz64_core (x k idx : Nat) (w : World) (hx0 : ((x : Int) == 0) = false)
    (key : IntKind.u64.wrap (bits BinOp.and IntKind.u64 (x : Int) (IntKind.u64.wrap (-(x : Int))) * 285870213051353865) / 288230376151711744 = (idx : Int))
    (hi : idx < 64) (hk : k < 64) (hcell : w.cell? ⟨3, idx, none⟩ = some (.int .u8 k)) :
    Calls Tryd.prog 162 #[.int .u64 x] w fun e w' => e = .returned (.int .i64 k) ∧ w = w' := by
  go_enter Tryd.func162, Tryd.ntmps162
  go_wp2_with (simp only [key])
  go_ret
  exact ⟨rfl, rfl⟩

theorem tz64_key (x a : Nat) (hx : x < 18446744073709551616) (hx0 : x ≠ 0) (hlow : x &&& (18446744073709551616 - x) = a) :
    IntKind.u64.wrap (bits BinOp.and IntKind.u64 (x : Int) (IntKind.u64.wrap (-(x : Int))) * 285870213051353865) / 288230376151711744 = ((a * 285870213051353865 % 18446744073709551616 / 288230376151711744 : Nat) : Int) := by
  have e1 : IntKind.u64.wrap (-(x : Int)) = ((18446744073709551616 - x : Nat) : Int) := by rw [IntKind.wrap_u64]; omega
  rw [e1, bits_and_u64_nat x _ hx (by omega), hlow, IntKind.wrap_u64]
  omega

theorem tz64_any (x : Nat) (hx0 : x ≠ 0) (hx : x < 18446744073709551616) (w : World) (hT : Tab w) :
    Calls Tryd.prog 162 #[.int .u64 x] w fun e w' => e = .returned (.int .i64 (Lib.ctz 64 x)) ∧ w = w' := by
  obtain ⟨hlow, hk⟩ := Lib.lowest_bit 64 x hx0 hx
  obtain ⟨hi, htab⟩ := Lib.deBruijn64_at _ hk
  have hcell := hT.2 _ hi
  rw [htab] at hcell
  exact tz64_core x _ _ w (by simp; omega) (tz64_key x _ hx hx0 hlow) hi hk hcell

/-- The product modulo n. -/
theorem pmul_any (a b n : Int) (w : World) (h0 : 0 ≤ a) (h1 : a < n) (h2 : 0 ≤ b) (h3 : b < n) (h4 : n ≤ 9223372036854775807) :
    Calls Tryd.prog 186 #[.int .u64 a, .int .u64 b, .int .u64 n] w fun e w' => e = .returned (.int .u64 (a * b % n)) ∧ Up w w' := by
  have p0 : 0 ≤ a * b := Int.mul_nonneg h0 h2
  have p1 : a * b < n * 18446744073709551616 := by
    have : a * b ≤ n * b := Int.mul_le_mul_of_nonneg_right (by omega) h2
    have : n * b ≤ n * 9223372036854775807 := Int.mul_le_mul_of_nonneg_left (by omega) (by omega)
    omega
  have e1 : a * b / 18446744073709551616 * 18446744073709551616 + a * b % 18446744073709551616 = a * b := by omega
  have E1 := hid e1
  have q1 : a * b / 18446744073709551616 < n := by omega
  have q0 : 0 ≤ a * b / 18446744073709551616 := by omega
  have r0 : 0 ≤ a * b % 18446744073709551616 := by omega
  have r1 : a * b % 18446744073709551616 ≤ 18446744073709551615 := by omega
  have s0 : 0 ≤ a * b % n := Int.emod_nonneg _ (by omega)
  have s1 : a * b % n < n := Int.emod_lt_of_pos _ (by omega)
  clear e1 p0 p1
  generalize hX : a * b / 18446744073709551616 = X at *
  generalize hY : a * b % 18446744073709551616 = Y at *
  have HX := hid hX
  have HY := hid hY
  clear hX hY
  go_enter Tryd.func186, Tryd.ntmps186
  go_wp2_with fail
  refine (mul64_any a b h0 (by omega) h2 (by omega) _).mono ?_
  rintro e w' ⟨rfl, rfl⟩
  rw [HX.out, HY.out]
  go_wp2_with fail
  refine (div64_any X Y n q0 q1 r0 r1 (by omega) _).mono ?_
  rintro e w' ⟨rfl, hU⟩
  rw [E1.out]
  go_wp2
  go_ret
  exact ⟨rfl, hU⟩

theorem ppow_any (a n : Int) (e : Nat) (w : World) (h0 : 0 ≤ a) (h1 : a < n) (h3 : e ≤ 9223372036854775807) (hn : 2 ≤ n) (h4 : n ≤ 9223372036854775807) :
    Calls Tryd.prog 185 #[.int .u64 a, .int .u64 e, .int .u64 n] w fun r w' => r = .returned (.int .u64 (pw a e n)) ∧ Up w w' := by
  go_enter Tryd.func185, Tryd.ntmps185
  go_wp2_with fail
  go_loopw [0, 1, 7] (fun va ve vx wr => ∃ (a' : Int) (k : Nat) (x : Int), va = .int .u64 a' ∧ ve = .int .u64 k ∧ vx = .int .u64 x ∧ 0 ≤ a' ∧ a' < n ∧ 0 ≤ x ∧ x < n ∧ k ≤ 9223372036854775807 ∧ x * a' ^ k % n = pw a e n ∧ Up w wr) (fun _ ve _ _ => (intOf ve).toNat)
  case atStart => exact ⟨a, e, 1, rfl, rfl, rfl, h0, h1, by omega, by omega, h3, by rw [Int.one_mul]; rfl, Up.refl w⟩
  case round =>
    obtain ⟨a', k, x, rfl, rfl, rfl, a0, a1, x0, x1, k1, hI, hU⟩ := hrel
    have HI := hid hI
    clear hI
    have p0 : 0 ≤ a' * a' % n := Int.emod_nonneg _ (by omega)
    have p1 : a' * a' % n < n := Int.emod_lt_of_pos _ (by omega)
    have q0 : 0 ≤ x * a' % n := Int.emod_nonneg _ (by omega)
    have q1 : x * a' % n < n := Int.emod_lt_of_pos _ (by omega)
    by_cases hk : 0 < k
    · have hk2 : decide (0 < k) = true := by simpa using hk
      have hb : bits .and .u64 (k : Int) 1 = (k : Int) % 2 := and_one_u64 _ (by omega) (by omega)
      by_cases ho : k % 2 = 1
      · have ho2 : ((k : Int) % 2 == 1) = true := by simp; omega
        have HO := hid ho
        clear ho
        go_wp2_with fail
        refine (pmul_any x a' n _ x0 x1 a0 a1 h4).mono ?_
        rintro r w1 ⟨rfl, hU1⟩
        go_wp2_with fail
        refine (pmul_any a' a' n _ a0 a1 a0 a1 h4).mono ?_
        rintro r w2 ⟨rfl, hU2⟩
        go_wp2_with fail
        go_roundw
        case rel => exact ⟨_, k / 2, _, rfl, by simp, rfl, p0, p1, q0, q1, by omega, by rw [round_odd _ _ _ _ HO.out, HI.out], (hU.trans hU1).trans hU2⟩
        case measure => simp [intOf]; omega
      · have ho2 : ((k : Int) % 2 == 1) = false := by simp; omega
        have HO := hid (show k % 2 = 0 by omega)
        clear ho
        go_wp2_with fail
        refine (pmul_any a' a' n _ a0 a1 a0 a1 h4).mono ?_
        rintro r w2 ⟨rfl, hU2⟩
        go_wp2_with fail
        go_roundw
        case rel => exact ⟨_, k / 2, _, rfl, by simp, rfl, p0, p1, x0, x1, by omega, by rw [round_even _ _ _ _ HO.out, HI.out], hU.trans hU2⟩
        case measure => simp [intOf]; omega
    · have hk0 : k = 0 := by omega
      subst hk0
      go_wp2
      go_ret
      refine ⟨?_, hU⟩
      rw [← HI.out]
      simp [Int.emod_eq_of_lt x0 x1]

theorem composite_any (a n : Int) (d s : Nat) (w : World) (h0 : 0 ≤ a) (h1 : a < n) (h3 : d ≤ 9223372036854775807) (hs : s ≤ 64) (hn : 2 ≤ n) (h4 : n ≤ 9223372036854775807) :
    Calls Tryd.prog 163 #[.int .u64 a, .int .u64 n, .int .u64 d, .int .i64 s] w fun r w' => r = .returned (.bool (!strongB n a d s)) ∧ Up w w' := by
  have x0 := pw_nonneg a d (show 0 < n by omega)
  have x1 := pw_lt a d (show 0 < n by omega)
  have HB : Hid (strongB n a d s = (pw a d n == 1 || pw a d n == n - 1 || sqs n (pw a d n) (s - 1))) := hid rfl
  have HP := hid (ppow_any a n d · h0 h1 h3 hn h4)
  generalize pw a d n = x at *
  generalize strongB n a d s = B at *
  by_cases t1 : (x == 1) = true
  · have hB : B = true := by rw [HB.out, t1]; rfl
    subst hB
    go_enter Tryd.func163, Tryd.ntmps163
    go_wp2_with fail
    refine (HP.out _).mono ?_
    rintro r w1 ⟨rfl, hU1⟩
    go_wp2
    go_ret
    exact ⟨rfl, hU1⟩
  · have t1 : (x == 1) = false := by simpa using t1
    by_cases t2 : (x == n - 1) = true
    · have hB : B = true := by rw [HB.out, t2]; simp
      subst hB
      go_enter Tryd.func163, Tryd.ntmps163
      go_wp2_with fail
      refine (HP.out _).mono ?_
      rintro r w1 ⟨rfl, hU1⟩
      go_wp2
      go_ret
      exact ⟨rfl, hU1⟩
    · have t2 : (x == n - 1) = false := by simpa using t2
      have HB2 : Hid (B = sqs n x (s - 1)) := hid (by rw [HB.out, t1, t2]; rfl)
      clear HB
      go_enter Tryd.func163, Tryd.ntmps163
      go_wp2_with fail
      refine (HP.out _).mono ?_
      rintro r w1 ⟨rfl, hU1⟩
      go_wp2_with fail
      go_loopw [9, 24] (fun vx vi wr => ∃ (y : Int) (i : Nat), vx = .int .u64 y ∧ vi = .int .i64 i ∧ i ≤ s - 1 ∧ 0 ≤ y ∧ y < n ∧ B = sqs n y (s - 1 - i) ∧ Up w wr) (fun _ vi _ => s - 1 - (intOf vi).toNat)
      case atStart => exact ⟨x, 0, rfl, rfl, by omega, x0, x1, HB2.out, hU1⟩
      case round =>
        obtain ⟨y, i, rfl, rfl, hi, y0, y1, hI, hU⟩ := hrel
        have HI := hid hI
        clear hI
        have p0 : 0 ≤ y * y % n := Int.emod_nonneg _ (by omega)
        have p1 : y * y % n < n := Int.emod_lt_of_pos _ (by omega)
        by_cases hl : i < s - 1
        · have hl2 : decide ((i : Int) < (s : Int) - 1) = true := by simp; omega
          have hq : s - 1 - i = (s - 1 - (i + 1)) + 1 := by omega
          have HI2 : Hid (B = (y * y % n == n - 1 || sqs n (y * y % n) (s - 1 - (i + 1)))) := hid (by rw [HI.out, hq]; rfl)
          clear HI hq
          go_wp2_with fail
          refine (pmul_any y y n _ y0 y1 y0 y1 h4).mono ?_
          rintro r w2 ⟨rfl, hU2⟩
          by_cases t3 : (y * y % n == n - 1) = true
          · have hB : B = true := by rw [HI2.out, t3]; rfl
            subst hB
            go_wp2
            go_ret
            exact ⟨rfl, hU.trans hU2⟩
          · have t3 : (y * y % n == n - 1) = false := by simpa using t3
            have HI3 : Hid (B = sqs n (y * y % n) (s - 1 - (i + 1))) := hid (by rw [HI2.out, t3]; rfl)
            clear HI2
            go_wp2_with fail
            go_roundw
            case rel => exact ⟨_, i + 1, rfl, by go_num, by omega, p0, p1, HI3.out, hU.trans hU2⟩
            case measure => simp [intOf]; omega
        · have hB : B = false := by rw [HI.out, show s - 1 - i = 0 by omega]; rfl
          have hl2 : decide ((i : Int) < (s : Int) - 1) = false := by simp; omega
          subst hB
          go_wp2
          go_ret
          exact ⟨rfl, hU⟩

theorem bases_at : ∀ (i : Nat) (_ : i < 12) (w : World), (Instr.index 203 (.agg basesCells) (.int .i64 i)).run Tryd.prog w = .ok (.int .u64 (baseList.getD i 0)) w
  | 0, _, _ => by kernel_rfl
  | 1, _, _ => by kernel_rfl
  | 2, _, _ => by kernel_rfl
  | 3, _, _ => by kernel_rfl
  | 4, _, _ => by kernel_rfl
  | 5, _, _ => by kernel_rfl
  | 6, _, _ => by kernel_rfl
  | 7, _, _ => by kernel_rfl
  | 8, _, _ => by kernel_rfl
  | 9, _, _ => by kernel_rfl
  | 10, _, _ => by kernel_rfl
  | 11, _, _ => by kernel_rfl
  | n + 12, h, _ => absurd h (by omega)

theorem base_bd (i : Nat) (hi : i < 12) : 2 ≤ baseList.getD i 0 ∧ baseList.getD i 0 ≤ 37 := by
  have h : i = 0 ∨ i = 1 ∨ i = 2 ∨ i = 3 ∨ i = 4 ∨ i = 5 ∨ i = 6 ∨ i = 7 ∨ i = 8 ∨ i = 9 ∨ i = 10 ∨ i = 11 := by omega
  rcases h with rfl | rfl | rfl | rfl | rfl | rfl | rfl | rfl | rfl | rfl | rfl | rfl <;> decide

theorem base_drop (i : Nat) (hi : i < 12) : baseList.drop i = baseList.getD i 0 :: baseList.drop (i + 1) := by
  rw [List.drop_eq_getElem_cons (by simpa [baseList] using hi)]
  simp [List.getD_eq_getElem?_getD, List.getElem?_eq_getElem (show i < baseList.length by simpa [baseList] using hi)]

theorem Is_small (n : Int) (w : World) (h : n < 2) : Calls Tryd.prog 141 #[.int .i64 n] w fun e w' => e = .returned (.bool (isP n)) ∧ Up w w' := by
  go_enter Tryd.func141, Tryd.ntmps141
  go_wp2
  go_ret
  exact ⟨by simp [isP, h], Up.refl _⟩

set_option maxHeartbeats 1000000 in
theorem Is_big (n : Int) (w : World) (h2 : 2 ≤ n) (h3 : n ≤ 9223372036854775807) (hT : Tab w) : Calls Tryd.prog 141 #[.int .i64 n] w fun e w' => e = .returned (.bool (isP n)) ∧ Up w w' := by
  have HT := hid hT
  obtain ⟨⟨tt, fr, hg⟩, -⟩ := hT
  have t0 : decide (n < 2) = false := by simp; omega
  have HP : Hid (isP n = match trial baseList n with | some b => b | none => baseList.all fun a => strongB n a ((n - 1).toNat / 2 ^ Lib.ctz 64 (n - 1).toNat) (Lib.ctz 64 (n - 1).toNat)) :=
    hid (by rw [isP, if_neg (by omega)]; rfl)
  generalize isP n = B at *
  go_enter Tryd.func141, Tryd.ntmps141
  go_wp2_with (refine wpList_load_row rfl 203 _ rfl 2 rfl tt basesCells fr _ hg Tryd.underlying203 rfl (by kernel_rfl) ?_)
  go_loop [14] (fun vi => ∃ i : Nat, i ≤ 12 ∧ vi = .int .i64 i ∧ trial baseList n = trial (baseList.drop i) n) (fun vi => 12 - (intOf vi).toNat)
  case atStart => exact ⟨0, by omega, rfl, rfl⟩
  case round =>
    obtain ⟨i, hi, rfl, hI⟩ := hrel
    by_cases hl : i < 12
    · have hix := bases_at i hl
      obtain ⟨p0, p1⟩ := base_bd i hl
      have hl2 : decide ((i : Int) < 12) = true := by simp; omega
      have hI2 : trial baseList n = if n % baseList.getD i 0 = 0 then some (n == baseList.getD i 0) else trial (baseList.drop (i + 1)) n := by
        rw [hI, base_drop i hl]; rfl
      have HI2 := hid hI2
      clear hI2 hI
      generalize baseList.getD i 0 = p at *
      have hp0 : (p == 0) = false := by simp; omega
      by_cases t1 : n % p = 0
      · have t1' : (n % p == 0) = true := by simpa using t1
        have HB2 : Hid (B = (n == p)) := hid (by rw [HP.out, HI2.out, if_pos t1])
        clear t1
        go_wp2
        go_ret
        exact ⟨by rw [HB2.out]; rfl, Up.refl _⟩
      · have t1' : (n % p == 0) = false := by simpa using t1
        have HI3 : Hid (trial baseList n = trial (baseList.drop (i + 1)) n) := hid (by rw [HI2.out, if_neg t1])
        clear t1
        go_wp2
        go_round
        case rel => exact ⟨i + 1, by omega, by go_num, HI3.out⟩
        case measure => simp [intOf]; omega
    · have hi12 : i = 12 := by omega
      subst hi12
      have hN : trial baseList n = none := by rw [hI]; rfl
      have hB : B = baseList.all fun a => strongB n a ((n - 1).toNat / 2 ^ Lib.ctz 64 (n - 1).toNat) (Lib.ctz 64 (n - 1).toNat) := by rw [HP.out, hN]
      have h41 : 38 ≤ n := by
        refine Int.not_lt.1 fun hlt => ?_
        have : n = 2 ∨ n = 3 ∨ n = 4 ∨ n = 5 ∨ n = 6 ∨ n = 7 ∨ n = 8 ∨ n = 9 ∨ n = 10 ∨ n = 11 ∨ n = 12 ∨ n = 13 ∨ n = 14 ∨ n = 15 ∨ n = 16 ∨ n = 17 ∨ n = 18 ∨ n = 19 ∨ n = 20 ∨ n = 21 ∨ n = 22 ∨ n = 23 ∨ n = 24 ∨ n = 25 ∨ n = 26 ∨ n = 27 ∨ n = 28 ∨ n = 29 ∨ n = 30 ∨ n = 31 ∨ n = 32 ∨ n = 33 ∨ n = 34 ∨ n = 35 ∨ n = 36 ∨ n = 37 := by omega
        rcases this with h | h | h | h | h | h | h | h | h | h | h | h | h | h | h | h | h | h | h | h | h | h | h | h | h | h | h | h | h | h | h | h | h | h | h | h <;> (rw [h] at hN; exact absurd hN (by decide))
      have hcz : Lib.ctz 64 (n - 1).toNat < 64 := (Lib.lowest_bit 64 (n - 1).toNat (by omega) (by omega)).2
      have htz := tz64_any (n - 1).toNat (by omega) (by omega) w HT.out
      rw [show (((n - 1).toNat : Nat) : Int) = n - 1 by omega] at htz
      have hdv : (n - 1) / 2 ^ Lib.ctz 64 (n - 1).toNat = (((n - 1).toNat / 2 ^ Lib.ctz 64 (n - 1).toNat : Nat) : Int) := by
        rw [Int.natCast_ediv, Int.toNat_of_nonneg (by omega)]; simp
      have hd1 : (n - 1).toNat / 2 ^ Lib.ctz 64 (n - 1).toNat ≤ 9223372036854775807 := Nat.le_trans (Nat.div_le_self _ _) (by omega)
      have HC := hid (fun a w' (h0 : 0 ≤ a) (h1 : a < n) => composite_any a n ((n - 1).toNat / 2 ^ Lib.ctz 64 (n - 1).toNat) (Lib.ctz 64 (n - 1).toNat) w' h0 h1 hd1 (by omega) h2 h3)
      generalize Lib.ctz 64 (n - 1).toNat = s at *
      generalize (n - 1).toNat / 2 ^ s = d at *
      have HB := hid hB
      have HTZ := hid htz
      clear hB hN hI HP htz
      go_wp2_with fail
      refine HTZ.out.mono ?_
      rintro e w' ⟨rfl, rfl⟩
      go_wp2_with (refine wpList_load_row rfl 203 _ rfl 2 rfl tt basesCells fr _ hg Tryd.underlying203 rfl (by kernel_rfl) ?_)
      go_loopw [29] (fun vi wr => ∃ i : Nat, i ≤ 12 ∧ vi = .int .i64 i ∧ B = (baseList.drop i).all (fun a => strongB n a d s) ∧ Up w wr) (fun vi _ => 12 - (intOf vi).toNat)
      case atStart => exact ⟨0, by omega, rfl, HB.out, Up.refl _⟩
      case round =>
        obtain ⟨i, hi, rfl, hI, hU⟩ := hrel
        by_cases hl : i < 12
        · have hix := bases_at i hl
          obtain ⟨p0, p1⟩ := base_bd i hl
          have hl2 : decide ((i : Int) < 12) = true := by simp; omega
          have hI2 : B = (strongB n (baseList.getD i 0) d s && (baseList.drop (i + 1)).all (fun a => strongB n a d s)) := by
            rw [hI, base_drop i hl]; rfl
          have HI2 := hid hI2
          clear hI2 hI
          have HC2 := fun w' => HC.out (baseList.getD i 0) w' (by omega) (by omega)
          generalize baseList.getD i 0 = p at *
          go_wp2_with fail
          refine (HC2 _).mono ?_
          rintro e w2 ⟨rfl, hU2⟩
          have hU3 := hU.trans hU2
          clear HC2 hU hU2
          generalize strongB n p d s = C at *
          cases C
          · have hB2 : B = false := by rw [HI2.out]; rfl
            subst hB2
            go_wp2
            go_ret
            exact ⟨rfl, hU3⟩
          · go_wp2
            go_roundw
            case rel => exact ⟨i + 1, by omega, by go_num, by rw [HI2.out]; rfl, hU3⟩
            case measure => simp [intOf]; omega
        · have hi12 : i = 12 := by omega
          subst hi12
          have hB2 : B = true := by rw [hI]; rfl
          subst hB2
          clear hI
          go_wp2
          go_ret
          exact ⟨rfl, hU⟩

theorem Is_any (n : Int) (w : World) (h3 : n ≤ 9223372036854775807) (hT : Tab w) : Calls Tryd.prog 141 #[.int .i64 n] w fun e w' => e = .returned (.bool (isP n)) ∧ Up w w' := by
  by_cases h : n < 2
  · exact Is_small n w h
  · exact Is_big n w (by omega) h3 hT
end Go.Proofs.YtdlcmpbpdbpanaaDoor
