/- Package draw: the number of the first 8 bytes; a block. Package draw: a block. -/
import Derived.Test.YtdlcmpbpdbpanaaGreatDoorMUnlinkExplains18
namespace Go.Proofs.YtdlcmpbpdbpanaaGreatDoor
open Go.RowKit Go.Sp
set_option maxHeartbeats 2000000
set_option maxRecDepth 20000

/-- The number of the first k bytes. -/
def firK (h : Nat → Int) : Nat → Int
  | 0 => 0
  | k + 1 => firK h k * 256 + h k
theorem firK_range {h : Nat → Int} (hB : Byt h) : ∀ k, 0 ≤ firK h k ∧ firK h k < 256 ^ k
  | 0 => by simp [firK]
  | k + 1 => by
    have ih := firK_range hB k
    have hb := hB k
    have e : (256 : Int) ^ (k + 1) = 256 ^ k * 256 := Int.pow_succ _ _
    rw [firK, e]
    omega

theorem or_byte64 (x c : Int) (h0 : 0 ≤ x) (h1 : x < 72057594037927936) (h2 : 0 ≤ c) (h3 : c ≤ 255) : bits .or .u64 (x * 256) c = x * 256 + c := by
  have := bits_join .u64 64 (by decide) (fun n a b => by rw [IntKind.wrap_u64]; omega) 8 (x := x * 256) (y := c) (by omega) (by omega) (by omega) (by omega) (by omega) (by omega)
  exact this

theorem first_any (h : Nat → Int) (w : World) (hB : Byt h) : Calls Tryz.prog 250 #[hashV h] w fun e w' => e = .returned (.int .u64 (firK h 8)) ∧ Up w w' := by
  have hget := fun i (hi : i < 32) => arrK_get (k := .u8) (f := h) hi
  unfold hashV
  generalize arrK .u8 h 32 = cs at *
  have HG := hid hget
  have HB := hid hB
  clear hget hB
  go_enter Tryz.func250, Tryz.ntmps250
  go_wp2_with fail
  have HB0 := hid (Blk.new (w := w) (t := 31) (cs := cs) rfl rfl)
  have HU0 := hid ((Up.refl w).alloc (.cells cs 31))
  obtain ⟨o, ho⟩ : ∃ o, w.heap.size = o := ⟨_, rfl⟩
  rw [ho] at HB0
  rw [ho]
  clear ho
  go_loopw [3, 8] (fun vx vi wr => ∃ i : Nat, i ≤ 8 ∧ vi = .int .i64 i ∧ vx = .int .u64 (firK h i) ∧ Hid (Blk wr o 31 cs) ∧ Hid (Up w wr)) (fun _ vi _ => 8 - (intOf vi).toNat)
  case atStart => exact ⟨0, by omega, rfl, rfl, HB0, HU0⟩
  case round =>
    clear HB0 HU0
    obtain ⟨i, hi, rfl, rfl, HBk, HU⟩ := hrel
    by_cases hlt : i < 8
    · have q1 := HBk.out.val (HG.out i (by omega))
      have r1 := firK_range HB.out i
      have r2 : (256 : Int) ^ i ≤ 72057594037927936 := by
        have : i = 0 ∨ i = 1 ∨ i = 2 ∨ i = 3 ∨ i = 4 ∨ i = 5 ∨ i = 6 ∨ i = 7 := by omega
        rcases this with rfl | rfl | rfl | rfl | rfl | rfl | rfl | rfl <;> decide
      have r3 := HB.out i
      have HS : Hid (firK h (i + 1) = firK h i * 256 + h i) := hid rfl
      have hx1 : firK h i < 72057594037927936 := Int.lt_of_lt_of_le r1.2 r2
      have hx0 := r1.1
      generalize firK h i = x at *
      generalize h i = c at *
      have hc0 := r3.1
      have hc1 := r3.2
      have hor := or_byte64 x c hx0 hx1 hc0 hc1
      clear r1 r2 r3
      go_wp2_with fail
      go_roundw
      case rel => exact ⟨i + 1, by omega, by go_num, by rw [HS.out], HBk, HU⟩
      case measure => simp [intOf]; omega
    · obtain rfl : i = 8 := by omega
      go_wp2
      go_ret
      exact ⟨rfl, HU.out⟩

/-- The cells of a source that draws. -/
def srcA (h : Nat → Int) (c : Int) (f : Bool) : Array Value := (drwA h c).push (.bool f)
theorem srcA_size (h : Nat → Int) (c : Int) (f : Bool) : (srcA h c f).size = 34 := by simp [srcA, drwA_size]
theorem srcA_full (h : Nat → Int) (c : Int) (f : Bool) : (srcA h c f)[33]? = some (.bool f) := by
  rw [srcA, Array.getElem?_push, if_pos (by rw [drwA_size])]
theorem srcA_drw (h : Nat → Int) (c : Int) (f : Bool) {i : Nat} (hi : i < 33) : (srcA h c f)[i]? = (drwA h c)[i]? := by
  rw [srcA, Array.getElem?_push, if_neg (by rw [drwA_size]; omega)]
theorem srcA_ctr (h : Nat → Int) (c : Int) (f : Bool) : (srcA h c f)[32]? = some (.int .i64 c) := by
  rw [srcA_drw _ _ _ (by omega), drwA_ctr]
theorem srcA_setCtr (h : Nat → Int) (c d : Int) (f : Bool) : (srcA h c f).setIfInBounds 32 (.int .i64 d) = srcA h d f := by
  apply Array.ext_getElem?
  intro i
  rw [Array.getElem?_setIfInBounds, srcA_size]
  by_cases h32 : i = 32
  · subst h32; rw [if_pos rfl, if_pos (by omega), srcA_ctr]
  · rw [if_neg (Ne.symm h32)]
    by_cases h33 : i = 33
    · subst h33; rw [srcA_full, srcA_full]
    · by_cases hi : i < 32
      · rw [srcA_drw _ _ _ (by omega), srcA_drw _ _ _ (by omega), drwA_get _ _ hi, drwA_get _ _ hi]
      · rw [Array.getElem?_eq_none (by rw [srcA_size]; omega), Array.getElem?_eq_none (by rw [srcA_size]; omega)]
theorem srcA_setFull (h : Nat → Int) (c : Int) (f g : Bool) : (srcA h c f).setIfInBounds 33 (.bool g) = srcA h c g := by
  apply Array.ext_getElem?
  intro i
  rw [Array.getElem?_setIfInBounds, srcA_size]
  by_cases h33 : i = 33
  · subst h33; rw [if_pos rfl, if_pos (by omega), srcA_full]
  · rw [if_neg (Ne.symm h33)]
    by_cases hi : i < 33
    · rw [srcA_drw _ _ _ hi, srcA_drw _ _ _ hi]
    · rw [Array.getElem?_eq_none (by rw [srcA_size]; omega), Array.getElem?_eq_none (by rw [srcA_size]; omega)]
end Go.Proofs.YtdlcmpbpdbpanaaGreatDoor
namespace Go.Proofs.YtdlcmpbpdbpanaaGreatDoor
open Go.RowKit Go.Sp
set_option maxHeartbeats 2000000
set_option maxRecDepth 20000

theorem src_drw {w : World} {b : Nat} {t : TypeId} {h : Nat → Int} {c : Int} {f : Bool} (hb : Blk w b t (srcA h c f)) : w.rangeAt b 0 (drwA h c).toList := fun j v hv => by
  rw [Nat.zero_add, hb.read]
  have hj : j < 33 := by
    have := (List.getElem?_eq_some_iff.1 hv).1
    rw [Array.length_toList, drwA_size] at this
    exact this
  rw [srcA_drw _ _ _ hj, ← hv, Array.getElem?_toList]

theorem grown_up {w w' : World} {b : Nat} (hU : Up w w') : w.grownBy w' (some b) := ⟨hU.below.os, hU.below.tape, hU.below.output, hU.size, fun _ hk _ => hU.block hk⟩
theorem grown_trans {a b c : World} {r : Option Nat} (h : a.grownBy b r) (k : b.grownBy c r) : a.grownBy c r :=
  ⟨k.os.trans h.os, k.tape.trans h.tape, k.output.trans h.output, Nat.le_trans h.size k.size, fun i hi hr => (k.block i (Nat.lt_of_lt_of_le hi h.size) hr).trans (h.block i hi hr)⟩
theorem grown_set {a w : World} {b : Nat} (h : a.grownBy w (some b)) (i : Nat) (v : Value) : a.grownBy (w.setCell ⟨b, i, none⟩ v) (some b) :=
  grown_trans h ⟨rfl, rfl, rfl, by simp [World.setCell], fun _ _ hr => Below.heap_setCell w _ v _ (fun e => hr (by rw [e]))⟩
theorem grown_row {a w : World} {b : Nat} (h : a.grownBy w (some b)) {g : Nat} (hg : a.heap.size ≤ g) (cs : Array Value) : a.grownBy (w.setRow g cs) (some b) := by
  have hz := below_setRow ((Up.refl w).below.mono (Nat.zero_le _)) (B := 0) (g := g) (Nat.zero_le _) cs
  exact ⟨hz.os.trans h.os, hz.tape.trans h.tape, hz.output.trans h.output, Nat.le_trans h.size hz.size, fun k hk hr => (setRow_other w g k cs (by omega)).trans (h.block k hk hr)⟩

/-- A digest of zeros. -/
def zeroH : Nat → Int := fun _ => 0
/-- A block of a source, the counter after it, and whether there was none. -/
def blkB (h : Nat → Int) (c : Int) : Nat → Int := if c = 1099511627776 then zeroH else shaB (posL h c)
def blkC (c : Int) : Int := if c = 1099511627776 then c else c + 1
def blkF (c : Int) (f : Bool) : Bool := if c = 1099511627776 then true else f

theorem posL_byt {h : Nat → Int} (hB : Byt h) (c : Int) : ∀ x ∈ posL h c, 0 ≤ x ∧ x ≤ 255 := by
  intro x hx
  simp only [posL, List.mem_append, hList, List.mem_map] at hx
  rcases hx with ⟨i, _, rfl⟩ | hx
  · exact hB i
  · exact beL_byt _ _ x hx

theorem block_any (h : Nat → Int) (c : Int) (f : Bool) (b : Nat) (w : World) (hT : TabS w) (hB : Byt h) (hb : Blk w b 250 (srcA h c f)) (c0 : 0 ≤ c) (c1 : c ≤ 1099511627776) :
    Calls Tryz.prog 249 #[.pointer (some ⟨b, 0, none⟩)] w fun e w' => e = .returned (hashV (blkB h c)) ∧ Blk w' b 250 (srcA h (blkC c) (blkF c f)) ∧ w.grownBy w' (some b) := by
  have q0 := hb.val (srcA_ctr h c f)
  have y0 := hb.thawed 32
  have l0 := hb.lt
  have HBk := hid hb
  by_cases hc : c = 1099511627776
  · have HF : Hid (blkB h c = zeroH ∧ blkC c = c ∧ blkF c f = true) := hid ⟨by rw [blkB, if_pos hc], by rw [blkC, if_pos hc], by rw [blkF, if_pos hc]⟩
    have d0 : (c == 1099511627776) = true := by simpa using hc
    have q1 := hb.val (srcA_full h c f)
    have y1 := hb.thawed 33
    have HS := hid (srcA_setFull h c f true)
    clear hb hc c0 c1 hT
    go_enter Tryz.func249, Tryz.ntmps249
    have hsz : (w.setCell ⟨b, 33, none⟩ (.bool true)).heap.size = w.heap.size := by simp
    go_wp2_with (refine wpList_store_rowTo rfl 31 _ _ rfl rfl w.heap.size (arrK .u8 (fun _ => 0) 32) ?_ ?_ 31 (arrK .u8 (fun _ => 0) 32) ?_ ?_ ?_ ?_ ?_)
    · rfl
    · exact (congrArg Value.agg zero32)
    · exact Blk.new hsz zero32
    · rw [arrK_size]; kernel_rfl
    · rfl
    · exact arrK_one
    have hW : Blk (w.setCell ⟨b, 33, none⟩ (.bool true)) b 250 (srcA h c true) := by
      rw [← HS.out]; exact HBk.out.wrote _ _
    have hG := grown_set (grown_up (b := b) (Up.refl w)) 33 (.bool true)
    generalize w.setCell ⟨b, 33, none⟩ (.bool true) = w1 at *
    refine bodyPost_ret (v := .agg (arrK .u8 (fun _ => 0) 32)) (results_cell_row rfl _ _ w.heap.size 31 _ (0, 0) _ (by rfl) ((Blk.new (cs' := arrK .u8 (fun _ => 0) 32) hsz zero32).row _) Tryz.underlying31 rfl (by rw [arrK_size]; kernel_rfl)) rfl ⟨by rw [HF.out.1]; rfl, ?_, ?_⟩
    · rw [HF.out.2.1, HF.out.2.2]
      exact (hW.alloc _).rowApart (by omega) _
    · exact grown_row (grown_trans hG (grown_up ((Up.refl _).alloc _))) (Nat.le_refl _) _
  · have HF : Hid (blkB h c = shaB (posL h c) ∧ blkC c = c + 1 ∧ blkF c f = f) := hid ⟨by rw [blkB, if_neg hc], by rw [blkC, if_neg hc], by rw [blkF, if_neg hc]⟩
    have d0 : (c == 1099511627776) = false := by simpa using hc
    have HS := hid (srcA_setCtr h c (c + 1) f)
    have hsd : (Tryz.prog.info? 158).map (·.size) = some (drwA h c).toList.length := by rw [Array.length_toList, drwA_size]; kernel_rfl
    have HByt := hid (posL_byt hB c)
    have HLen := hid (posL_length h c)
    have HT := hid hT
    clear hb hc hT
    go_enter Tryz.func249, Tryz.ntmps249
    go_wp2_with (refine wpList_load_mid rfl 158 _ rfl b 0 rfl (drwA h c).toList _ (src_drw (HBk.out.alloc _)) Tryz.underlying158 rfl hsd ?_; rw [Array.toArray_toList])
    refine (position_any h c _).mono ?_
    rintro e w1 ⟨v1, rfl, hO1, hU1⟩
    have HO1 := hid hO1.seq
    have HZ1 : Hid (Blk w1 w.heap.size 31 (arrK .u8 (fun _ => 0) 32)) := hid ((Blk.new rfl zero32).up hU1)
    have HB1 := hid ((HBk.out.alloc _).up hU1)
    have HU1 := hid (((Up.refl w).alloc _).trans hU1)
    obtain ⟨o, ho⟩ : ∃ o, w.heap.size = o := ⟨_, rfl⟩
    rw [ho] at HZ1 l0
    have HOo := hid ho
    rw [ho]
    clear hU1 hO1 ho q0 y0
    go_wp2_with fail
    refine (Sum_any _ (posL h c) _ (HT.out.up HU1.out) HO1.out (by rw [HLen.out]; omega) HByt.out).mono ?_
    rintro e w2 ⟨rfl, hU2⟩
    have HZ2 := hid (HZ1.out.up hU2)
    have HB2 := hid (HB1.out.up hU2)
    have HU2 := hid (HU1.out.trans hU2)
    clear hU2 HZ1 HB1 HU1 HO1
    have q0 := HB2.out.val (srcA_ctr h c f)
    have y0 := HB2.out.thawed 32
    have lb := HB2.out.lt
    have lz := HZ2.out.lt
    have hne : b ≠ o := by omega
    have hszz : (w2.setCell ⟨b, 32, none⟩ (.int .i64 (c + 1))).heap.size = w2.heap.size := by simp
    have hW : Blk (w2.setCell ⟨b, 32, none⟩ (.int .i64 (c + 1))) b 250 (srcA h (c + 1) f) := by
      rw [← HS.out]; exact HB2.out.wrote _ _
    have HW := hid hW
    have HZ3 := hid (HZ2.out.apart (a := ⟨b, 32, none⟩) (Ne.symm hne) (.int .i64 (c + 1)))
    have HG := hid (grown_set (grown_up (b := b) HU2.out) 32 (.int .i64 (c + 1)))
    clear hW
    unfold hashV
    go_wp2_with (first
      | (refine wpList_load_row rfl 31 _ rfl w2.heap.size rfl 31 (arrK .u8 (shaB (posL h c)) 32) (0, 0) _ (Blk.new hszz rfl) Tryz.underlying31 rfl (by rw [arrK_size]; kernel_rfl) ?_)
      | (refine wpList_store_rowTo rfl 31 _ _ rfl rfl _ _ rfl rfl 31 _ (heap_alloc_new _ _) (by rw [arrK_size]; kernel_rfl) (by rw [arrK_size]; rfl) arrK_one ?_; rw [World.setRow_alloc_new])
      | (refine wpList_store_rowTo rfl 31 _ _ rfl rfl o (arrK .u8 (shaB (posL h c)) 32) rfl rfl 31 (arrK .u8 (fun _ => 0) 32) (HZ3.out.alloc _) (by rw [arrK_size]; kernel_rfl) (by rw [arrK_size, arrK_size]) arrK_one ?_))
    refine bodyPost_ret (v := .agg (arrK .u8 (shaB (posL h c)) 32)) (results_cell_row rfl _ _ o 31 _ (0, 0) _ (by rfl) ((HZ3.out.alloc _).row _) Tryz.underlying31 rfl (by rw [arrK_size]; kernel_rfl)) rfl ⟨by rw [HF.out.1]; rfl, ?_, ?_⟩
    · rw [HF.out.2.1, HF.out.2.2]
      exact (HW.out.alloc _).rowApart hne _
    · exact grown_row (grown_trans HG.out (grown_up ((Up.refl _).alloc _))) (by have := HOo.out; omega) _
end Go.Proofs.YtdlcmpbpdbpanaaGreatDoor
