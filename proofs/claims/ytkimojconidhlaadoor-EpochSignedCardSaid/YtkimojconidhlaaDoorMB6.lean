/- The number of a digest: doublings, and products. No program in sight. Package digest: the number of a digest. Package draw: the number of the first 8 bytes; a block. Package draw: a block. Package draw: a number. -/
import Derived.Test.YtkimojconidhlaaDoorMB3
import Derived.Test.YtkimojconidhlaaDoorMB5
import Derived.Test.YtkimojconidhlaaDoorMB1
import Derived.Lib.ItoaNum
namespace Go.Sp

theorem dbl_zero {x m : Int} (h0 : 0 ≤ x) (h1 : x < m) : x * 2 ^ 0 % m = x := by
  rw [show x * 2 ^ 0 = x by simp]
  exact Int.emod_eq_of_lt h0 h1
theorem dbl_step (x m : Int) (j : Nat) : (x * 2 ^ j % m + x * 2 ^ j % m) % m = x * 2 ^ (j + 1) % m := by
  rw [← Int.add_emod, Int.pow_succ, ← Int.mul_assoc]
  congr 1
  omega
theorem num_step (x c m : Int) : (x * 2 ^ 8 % m + c % m) % m = (x * 256 + c) % m := by
  rw [← Int.add_emod]
  rfl
theorem num_ref (x c m : Int) : (x * (256 % m) % m + c) % m = (x * 256 + c) % m := by
  have h : x * (256 % m) % m = x * 256 % m := by rw [Int.mul_emod, Int.emod_emod_of_dvd _ (Int.dvd_refl m), ← Int.mul_emod]
  rw [h, Int.emod_add_emod]
end Go.Sp
namespace Go.Proofs.YtkimojconidhlaaDoor
open Go.RowKit Go.Sp
set_option maxHeartbeats 2000000
set_option maxRecDepth 20000

theorem Number_ok (h : Nat → Int) (m : Int) (w : World) (hB : Byt h) (m0 : 1 ≤ m) (m1 : m < 2305843009213693952) :
    Calls Tryd.prog 80 #[hashV h, .int .i64 m] w fun e w' => e = .returned (.tuple #[.int .i64 (numH h m), .int .i64 0]) ∧ Up w w' := by
  have hget := fun i (hi : i < 32) => arrK_get (k := .u8) (f := h) hi
  unfold hashV
  generalize arrK .u8 h 32 = cs at *
  have HG := hid hget
  have HB := hid hB
  have HN : Hid (numH h m = numB h m 16) := hid rfl
  clear hget hB
  have d0 : decide (m < 1) = false := by simp; omega
  have d1 : decide (m ≥ 2305843009213693952) = false := by simp; omega
  have dm : (m == 0) = false := by simp; omega
  go_enter Tryd.func80, Tryd.ntmps80
  go_wp2_with fail
  have HB0 := hid (Blk.new (w := w) (t := 28) (cs := cs) rfl rfl)
  have HU0 := hid ((Up.refl w).alloc (.cells cs 28))
  obtain ⟨o, ho⟩ : ∃ o, w.heap.size = o := ⟨_, rfl⟩
  rw [ho] at HB0
  rw [ho]
  clear ho
  go_loopw [6, 17] (fun vx vi wr => ∃ i : Nat, i ≤ 16 ∧ vi = .int .i64 i ∧ vx = .int .i64 (numB h m i) ∧ Hid (Blk wr o 28 cs) ∧ Hid (Up w wr)) (fun _ vi _ => 16 - (intOf vi).toNat)
  case atStart => exact ⟨0, by omega, rfl, rfl, HB0, HU0⟩
  case round =>
    clear HB0 HU0
    obtain ⟨i, hi, rfl, rfl, HBk, HU⟩ := hrel
    by_cases hlt : i < 16
    · have q1 := HBk.out.val (HG.out i (by omega))
      have r3 := HB.out i
      obtain ⟨x0, x1⟩ := numB_range (h := h) (m := m) (by omega) i
      have HS : Hid (numB h m (i + 1) = (numB h m i * 256 + h i) % m) := hid rfl
      generalize numB h m i = x at *
      generalize h i = c at *
      have hc0 := r3.1
      have hc1 := r3.2
      have HX : Hid (0 ≤ x ∧ x < m) := hid ⟨x0, x1⟩
      have di : decide ((i : Int) < 16) = true := by simp; omega
      clear r3
      go_wp2_with fail
      have HX0 : Hid (x = x * 2 ^ 0 % m) := hid (dbl_zero x0 x1).symm
      obtain ⟨wo, rfl⟩ : ∃ wo : World, wo = wr := ⟨_, rfl⟩
      clear x0 x1 q1
      go_loopw [6, 21] (fun vx vj wr => ∃ (j : Nat) (y : Int), j ≤ 8 ∧ vj = .int .i64 j ∧ vx = .int .i64 y ∧ Hid (y = x * 2 ^ j % m) ∧ 0 ≤ y ∧ y < m ∧ Hid (Up wo wr)) (fun _ vj _ => 8 - (intOf vj).toNat)
      case atStart => exact ⟨0, x, by omega, rfl, rfl, HX0, HX.out.1, HX.out.2, hid (Up.refl _)⟩
      case round =>
        obtain ⟨j, y, hj, rfl, rfl, HY, y0, y1, HU2⟩ := hrel
        by_cases hlt2 : j < 8
        · have HA := hid (fun w' => Add_ok y y m w' y0 y1 y0 y1 m1)
          have HY2 : Hid ((y + y) % m = x * 2 ^ (j + 1) % m) := hid (by rw [HY.out]; exact dbl_step x m j)
          have e0 := Int.emod_nonneg (y + y) (show m ≠ 0 by omega)
          have e1 := Int.emod_lt_of_pos (y + y) (show 0 < m by omega)
          go_wp2_with fail
          refine (HA.out _).mono ?_
          rintro e w2 ⟨rfl, hU3⟩
          have HU3 := hid (HU2.out.trans hU3)
          clear hU3 HY HU2 HA
          generalize (y + y) % m = z at *
          go_wp2_with fail
          go_roundw
          case rel => exact ⟨j + 1, z, by omega, by go_num, rfl, HY2, e0, e1, HU3⟩
          case measure => simp [intOf]; omega
        · obtain rfl : j = 8 := by omega
          have e0 := Int.emod_nonneg c (show m ≠ 0 by omega)
          have e1 := Int.emod_lt_of_pos c (show 0 < m by omega)
          have htm : c.tmod m = c % m := Int.tmod_eq_emod_of_nonneg hc0
          have HA := hid (fun w' => Add_ok y (c % m) m w' y0 y1 e0 e1 m1)
          have HZ : Hid ((y + c % m) % m = (x * 256 + c) % m) := hid (by rw [HY.out]; exact num_step x c m)
          go_wp2_with fail
          refine (HA.out _).mono ?_
          rintro e w2 ⟨rfl, hU3⟩
          have HU3 := hid (HU.out.trans (HU2.out.trans hU3))
          have HB3 := hid ((HBk.out.up HU2.out).up hU3)
          clear hU3 HY HU2 HA htm e0 e1
          generalize (y + c % m) % m = z at *
          go_wp2_with fail
          go_roundw
          case rel => exact ⟨i + 1, by omega, by go_num, by rw [HS.out, HZ.out], HB3, HU3⟩
          case measure => simp [intOf]; omega
    · obtain rfl : i = 16 := by omega
      go_wp2
      go_ret2
      exact ⟨by rw [HN.out]; rfl, HU.out⟩
end Go.Proofs.YtkimojconidhlaaDoor
namespace Go.Proofs.YtkimojconidhlaaDoor
open Go.RowKit Go.Sp
set_option maxHeartbeats 2000000
set_option maxRecDepth 20000

/-- The number of the first k bytes. -/
def firK (h : Nat → Int) : Nat → Int
  | 0 => 0
  | k + 1 => firK h k * 256 + h k
theorem firK_range {h : Nat → Int} (hB : Byt h) : ∀ k, 0 ≤ firK h k ∧ firK h k < 256 ^ k
  | 0 => by simp [firK]
  | k + 1 => by
    have ih := firK_range hB k
    have hb := hB k
    have e : (256 : Int) ^ (k + 1) = 256 ^ k * 256 := Int.pow_succ _ _
    rw [firK, e]
    omega

theorem or_byte64 (x c : Int) (h0 : 0 ≤ x) (h1 : x < 72057594037927936) (h2 : 0 ≤ c) (h3 : c ≤ 255) : bits .or .u64 (x * 256) c = x * 256 + c := by
  have := bits_join .u64 64 (by decide) (fun n a b => by rw [IntKind.wrap_u64]; omega) 8 (x := x * 256) (y := c) (by omega) (by omega) (by omega) (by omega) (by omega) (by omega)
  exact this

theorem first_any (h : Nat → Int) (w : World) (hB : Byt h) : Calls Tryd.prog 83 #[hashV h] w fun e w' => e = .returned (.int .u64 (firK h 8)) ∧ Up w w' := by
  have hget := fun i (hi : i < 32) => arrK_get (k := .u8) (f := h) hi
  unfold hashV
  generalize arrK .u8 h 32 = cs at *
  have HG := hid hget
  have HB := hid hB
  clear hget hB
  go_enter Tryd.func83, Tryd.ntmps83
  go_wp2_with fail
  have HB0 := hid (Blk.new (w := w) (t := 28) (cs := cs) rfl rfl)
  have HU0 := hid ((Up.refl w).alloc (.cells cs 28))
  obtain ⟨o, ho⟩ : ∃ o, w.heap.size = o := ⟨_, rfl⟩
  rw [ho] at HB0
  rw [ho]
  clear ho
  go_loopw [3, 8] (fun vx vi wr => ∃ i : Nat, i ≤ 8 ∧ vi = .int .i64 i ∧ vx = .int .u64 (firK h i) ∧ Hid (Blk wr o 28 cs) ∧ Hid (Up w wr)) (fun _ vi _ => 8 - (intOf vi).toNat)
  case atStart => exact ⟨0, by omega, rfl, rfl, HB0, HU0⟩
  case round =>
    clear HB0 HU0
    obtain ⟨i, hi, rfl, rfl, HBk, HU⟩ := hrel
    by_cases hlt : i < 8
    · have q1 := HBk.out.val (HG.out i (by omega))
      have r1 := firK_range HB.out i
      have r2 : (256 : Int) ^ i ≤ 72057594037927936 := by
        have : i = 0 ∨ i = 1 ∨ i = 2 ∨ i = 3 ∨ i = 4 ∨ i = 5 ∨ i = 6 ∨ i = 7 := by omega
        rcases this with rfl | rfl | rfl | rfl | rfl | rfl | rfl | rfl <;> decide
      have r3 := HB.out i
      have HS : Hid (firK h (i + 1) = firK h i * 256 + h i) := hid rfl
      have hx1 : firK h i < 72057594037927936 := Int.lt_of_lt_of_le r1.2 r2
      have hx0 := r1.1
      generalize firK h i = x at *
      generalize h i = c at *
      have hc0 := r3.1
      have hc1 := r3.2
      have hor := or_byte64 x c hx0 hx1 hc0 hc1
      clear r1 r2 r3
      go_wp2_with fail
      go_roundw
      case rel => exact ⟨i + 1, by omega, by go_num, by rw [HS.out], HBk, HU⟩
      case measure => simp [intOf]; omega
    · obtain rfl : i = 8 := by omega
      go_wp2
      go_ret
      exact ⟨rfl, HU.out⟩

/-- The cells of a source that draws. -/
def srcA (h : Nat → Int) (c : Int) (f : Bool) : Array Value := (drwA h c).push (.bool f)
theorem srcA_size (h : Nat → Int) (c : Int) (f : Bool) : (srcA h c f).size = 34 := by simp [srcA, drwA_size]
theorem srcA_full (h : Nat → Int) (c : Int) (f : Bool) : (srcA h c f)[33]? = some (.bool f) := by
  rw [srcA, Array.getElem?_push, if_pos (by rw [drwA_size])]
theorem srcA_drw (h : Nat → Int) (c : Int) (f : Bool) {i : Nat} (hi : i < 33) : (srcA h c f)[i]? = (drwA h c)[i]? := by
  rw [srcA, Array.getElem?_push, if_neg (by rw [drwA_size]; omega)]
theorem srcA_ctr (h : Nat → Int) (c : Int) (f : Bool) : (srcA h c f)[32]? = some (.int .i64 c) := by
  rw [srcA_drw _ _ _ (by omega), drwA_ctr]
theorem srcA_setCtr (h : Nat → Int) (c d : Int) (f : Bool) : (srcA h c f).setIfInBounds 32 (.int .i64 d) = srcA h d f := by
  apply Array.ext_getElem?
  intro i
  rw [Array.getElem?_setIfInBounds, srcA_size]
  by_cases h32 : i = 32
  · subst h32; rw [if_pos rfl, if_pos (by omega), srcA_ctr]
  · rw [if_neg (Ne.symm h32)]
    by_cases h33 : i = 33
    · subst h33; rw [srcA_full, srcA_full]
    · by_cases hi : i < 32
      · rw [srcA_drw _ _ _ (by omega), srcA_drw _ _ _ (by omega), drwA_get _ _ hi, drwA_get _ _ hi]
      · rw [Array.getElem?_eq_none (by rw [srcA_size]; omega), Array.getElem?_eq_none (by rw [srcA_size]; omega)]
theorem srcA_setFull (h : Nat → Int) (c : Int) (f g : Bool) : (srcA h c f).setIfInBounds 33 (.bool g) = srcA h c g := by
  apply Array.ext_getElem?
  intro i
  rw [Array.getElem?_setIfInBounds, srcA_size]
  by_cases h33 : i = 33
  · subst h33; rw [if_pos rfl, if_pos (by omega), srcA_full]
  · rw [if_neg (Ne.symm h33)]
    by_cases hi : i < 33
    · rw [srcA_drw _ _ _ hi, srcA_drw _ _ _ hi]
    · rw [Array.getElem?_eq_none (by rw [srcA_size]; omega), Array.getElem?_eq_none (by rw [srcA_size]; omega)]
end Go.Proofs.YtkimojconidhlaaDoor
namespace Go.Proofs.YtkimojconidhlaaDoor
open Go.RowKit Go.Sp
set_option maxHeartbeats 2000000
set_option maxRecDepth 20000

theorem src_drw {w : World} {b : Nat} {t : TypeId} {h : Nat → Int} {c : Int} {f : Bool} (hb : Blk w b t (srcA h c f)) : w.rangeAt b 0 (drwA h c).toList := fun j v hv => by
  rw [Nat.zero_add, hb.read]
  have hj : j < 33 := by
    have := (List.getElem?_eq_some_iff.1 hv).1
    rw [Array.length_toList, drwA_size] at this
    exact this
  rw [srcA_drw _ _ _ hj, ← hv, Array.getElem?_toList]

theorem grown_up {w w' : World} {b : Nat} (hU : Up w w') : w.grownBy w' (some b) := ⟨hU.below.os, hU.below.tape, hU.below.output, hU.size, fun _ hk _ => hU.block hk⟩
theorem grown_trans {a b c : World} {r : Option Nat} (h : a.grownBy b r) (k : b.grownBy c r) : a.grownBy c r :=
  ⟨k.os.trans h.os, k.tape.trans h.tape, k.output.trans h.output, Nat.le_trans h.size k.size, fun i hi hr => (k.block i (Nat.lt_of_lt_of_le hi h.size) hr).trans (h.block i hi hr)⟩
theorem grown_set {a w : World} {b : Nat} (h : a.grownBy w (some b)) (i : Nat) (v : Value) : a.grownBy (w.setCell ⟨b, i, none⟩ v) (some b) :=
  grown_trans h ⟨rfl, rfl, rfl, by simp [World.setCell], fun _ _ hr => Below.heap_setCell w _ v _ (fun e => hr (by rw [e]))⟩
theorem grown_row {a w : World} {b : Nat} (h : a.grownBy w (some b)) {g : Nat} (hg : a.heap.size ≤ g) (cs : Array Value) : a.grownBy (w.setRow g cs) (some b) := by
  have hz := below_setRow ((Up.refl w).below.mono (Nat.zero_le _)) (B := 0) (g := g) (Nat.zero_le _) cs
  exact ⟨hz.os.trans h.os, hz.tape.trans h.tape, hz.output.trans h.output, Nat.le_trans h.size hz.size, fun k hk hr => (setRow_other w g k cs (by omega)).trans (h.block k hk hr)⟩

/-- A digest of zeros. -/
def zeroH : Nat → Int := fun _ => 0
/-- A block of a source, the counter after it, and whether there was none. -/
def blkB (h : Nat → Int) (c : Int) : Nat → Int := if c = 1099511627776 then zeroH else shaB (posL h c)
def blkC (c : Int) : Int := if c = 1099511627776 then c else c + 1
def blkF (c : Int) (f : Bool) : Bool := if c = 1099511627776 then true else f

theorem posL_byt {h : Nat → Int} (hB : Byt h) (c : Int) : ∀ x ∈ posL h c, 0 ≤ x ∧ x ≤ 255 := by
  intro x hx
  simp only [posL, List.mem_append, hList, List.mem_map] at hx
  rcases hx with ⟨i, _, rfl⟩ | hx
  · exact hB i
  · exact beL_byt _ _ x hx

theorem block_any (h : Nat → Int) (c : Int) (f : Bool) (b : Nat) (w : World) (hT : TabS w) (hB : Byt h) (hb : Blk w b 120 (srcA h c f)) (c0 : 0 ≤ c) (c1 : c ≤ 1099511627776) :
    Calls Tryd.prog 82 #[.pointer (some ⟨b, 0, none⟩)] w fun e w' => e = .returned (hashV (blkB h c)) ∧ Blk w' b 120 (srcA h (blkC c) (blkF c f)) ∧ w.grownBy w' (some b) := by
  have q0 := hb.val (srcA_ctr h c f)
  have y0 := hb.thawed 32
  have l0 := hb.lt
  have HBk := hid hb
  by_cases hc : c = 1099511627776
  · have HF : Hid (blkB h c = zeroH ∧ blkC c = c ∧ blkF c f = true) := hid ⟨by rw [blkB, if_pos hc], by rw [blkC, if_pos hc], by rw [blkF, if_pos hc]⟩
    have d0 : (c == 1099511627776) = true := by simpa using hc
    have q1 := hb.val (srcA_full h c f)
    have y1 := hb.thawed 33
    have HS := hid (srcA_setFull h c f true)
    clear hb hc c0 c1 hT
    go_enter Tryd.func82, Tryd.ntmps82
    have hsz : (w.setCell ⟨b, 33, none⟩ (.bool true)).heap.size = w.heap.size := by simp
    go_wp2_with (refine wpList_store_rowTo rfl 28 _ _ rfl rfl w.heap.size (arrK .u8 (fun _ => 0) 32) ?_ ?_ 28 (arrK .u8 (fun _ => 0) 32) ?_ ?_ ?_ ?_ ?_)
    · rfl
    · exact (congrArg Value.agg zero32)
    · exact Blk.new hsz zero32
    · rw [arrK_size]; kernel_rfl
    · rfl
    · exact arrK_one
    have hW : Blk (w.setCell ⟨b, 33, none⟩ (.bool true)) b 120 (srcA h c true) := by
      rw [← HS.out]; exact HBk.out.wrote _ _
    have hG := grown_set (grown_up (b := b) (Up.refl w)) 33 (.bool true)
    generalize w.setCell ⟨b, 33, none⟩ (.bool true) = w1 at *
    refine bodyPost_ret (v := .agg (arrK .u8 (fun _ => 0) 32)) (results_cell_row rfl _ _ w.heap.size 28 _ (0, 0) _ (by rfl) ((Blk.new (cs' := arrK .u8 (fun _ => 0) 32) hsz zero32).row _) Tryd.underlying28 rfl (by rw [arrK_size]; kernel_rfl)) rfl ⟨by rw [HF.out.1]; rfl, ?_, ?_⟩
    · rw [HF.out.2.1, HF.out.2.2]
      exact (hW.alloc _).rowApart (by omega) _
    · exact grown_row (grown_trans hG (grown_up ((Up.refl _).alloc _))) (Nat.le_refl _) _
  · have HF : Hid (blkB h c = shaB (posL h c) ∧ blkC c = c + 1 ∧ blkF c f = f) := hid ⟨by rw [blkB, if_neg hc], by rw [blkC, if_neg hc], by rw [blkF, if_neg hc]⟩
    have d0 : (c == 1099511627776) = false := by simpa using hc
    have HS := hid (srcA_setCtr h c (c + 1) f)
    have hsd : (Tryd.prog.info? 30).map (·.size) = some (drwA h c).toList.length := by rw [Array.length_toList, drwA_size]; kernel_rfl
    have HByt := hid (posL_byt hB c)
    have HLen := hid (posL_length h c)
    have HT := hid hT
    clear hb hc hT
    go_enter Tryd.func82, Tryd.ntmps82
    go_wp2_with (refine wpList_load_mid rfl 30 _ rfl b 0 rfl (drwA h c).toList _ (src_drw (HBk.out.alloc _)) Tryd.underlying30 rfl hsd ?_; rw [Array.toArray_toList])
    refine (position_any h c _).mono ?_
    rintro e w1 ⟨v1, rfl, hO1, hU1⟩
    have HO1 := hid hO1.seq
    have HZ1 : Hid (Blk w1 w.heap.size 28 (arrK .u8 (fun _ => 0) 32)) := hid ((Blk.new rfl zero32).up hU1)
    have HB1 := hid ((HBk.out.alloc _).up hU1)
    have HU1 := hid (((Up.refl w).alloc _).trans hU1)
    obtain ⟨o, ho⟩ : ∃ o, w.heap.size = o := ⟨_, rfl⟩
    rw [ho] at HZ1 l0
    have HOo := hid ho
    rw [ho]
    clear hU1 hO1 ho q0 y0
    go_wp2_with fail
    refine (Sum_any _ (posL h c) _ (HT.out.up HU1.out) HO1.out (by rw [HLen.out]; omega) HByt.out).mono ?_
    rintro e w2 ⟨rfl, hU2⟩
    have HZ2 := hid (HZ1.out.up hU2)
    have HB2 := hid (HB1.out.up hU2)
    have HU2 := hid (HU1.out.trans hU2)
    clear hU2 HZ1 HB1 HU1 HO1
    have q0 := HB2.out.val (srcA_ctr h c f)
    have y0 := HB2.out.thawed 32
    have lb := HB2.out.lt
    have lz := HZ2.out.lt
    have hne : b ≠ o := by omega
    have hszz : (w2.setCell ⟨b, 32, none⟩ (.int .i64 (c + 1))).heap.size = w2.heap.size := by simp
    have hW : Blk (w2.setCell ⟨b, 32, none⟩ (.int .i64 (c + 1))) b 120 (srcA h (c + 1) f) := by
      rw [← HS.out]; exact HB2.out.wrote _ _
    have HW := hid hW
    have HZ3 := hid (HZ2.out.apart (a := ⟨b, 32, none⟩) (Ne.symm hne) (.int .i64 (c + 1)))
    have HG := hid (grown_set (grown_up (b := b) HU2.out) 32 (.int .i64 (c + 1)))
    clear hW
    unfold hashV
    go_wp2_with (first
      | (refine wpList_load_row rfl 28 _ rfl w2.heap.size rfl 28 (arrK .u8 (shaB (posL h c)) 32) (0, 0) _ (Blk.new hszz rfl) Tryd.underlying28 rfl (by rw [arrK_size]; kernel_rfl) ?_)
      | (refine wpList_store_rowTo rfl 28 _ _ rfl rfl _ _ rfl rfl 28 _ (heap_alloc_new _ _) (by rw [arrK_size]; kernel_rfl) (by rw [arrK_size]; rfl) arrK_one ?_; rw [World.setRow_alloc_new])
      | (refine wpList_store_rowTo rfl 28 _ _ rfl rfl o (arrK .u8 (shaB (posL h c)) 32) rfl rfl 28 (arrK .u8 (fun _ => 0) 32) (HZ3.out.alloc _) (by rw [arrK_size]; kernel_rfl) (by rw [arrK_size, arrK_size]) arrK_one ?_))
    refine bodyPost_ret (v := .agg (arrK .u8 (shaB (posL h c)) 32)) (results_cell_row rfl _ _ o 28 _ (0, 0) _ (by rfl) ((HZ3.out.alloc _).row _) Tryd.underlying28 rfl (by rw [arrK_size]; kernel_rfl)) rfl ⟨by rw [HF.out.1]; rfl, ?_, ?_⟩
    · rw [HF.out.2.1, HF.out.2.2]
      exact (HW.out.alloc _).rowApart hne _
    · exact grown_row (grown_trans HG.out (grown_up ((Up.refl _).alloc _))) (by have := HOo.out; omega) _
end Go.Proofs.YtkimojconidhlaaDoor
namespace Go.Proofs.YtkimojconidhlaaDoor
open Go.RowKit Go.Sp
set_option maxHeartbeats 2000000
set_option maxRecDepth 20000

/-- How many bits are drawn for a number below q. -/
def maskN (q : Int) : Nat := Lib.bitLen (q - 1).toNat
theorem maskN_le {q : Int} (h0 : 1 ≤ q) (h1 : q ≤ 2305843009213693951) : maskN q ≤ 61 ∧ q ≤ 2 ^ maskN q := by
  unfold maskN
  by_cases hq : (q - 1).toNat = 0
  · rw [hq]
    have : Lib.bitLen 0 = 0 := by decide
    rw [this]
    omega
  · have hb := Lib.bitLenAux_bounds 64 (q - 1).toNat (by omega) hq
    change 1 ≤ Lib.bitLen (q - 1).toNat ∧ 2 ^ (Lib.bitLen (q - 1).toNat - 1) ≤ (q - 1).toNat ∧ (q - 1).toNat < 2 ^ Lib.bitLen (q - 1).toNat at hb
    generalize Lib.bitLen (q - 1).toNat = n at *
    obtain ⟨b1, b2, b3⟩ := hb
    constructor
    · refine Nat.le_of_not_lt fun hn => ?_
      have : 2 ^ 61 ≤ 2 ^ (n - 1) := Nat.pow_le_pow_right (by decide) (by omega)
      omega
    · have : ((2 ^ n : Nat) : Int) = 2 ^ n := by simp
      omega

theorem u64_mask (x : Int) (n : Nat) (h0 : 0 ≤ x) (h1 : x < 18446744073709551616) (hn : n ≤ 63) : bits .and .u64 x (2 ^ n - 1) = x % 2 ^ n := by
  obtain ⟨m, rfl⟩ : ∃ m : Nat, x = m := ⟨x.toNat, by omega⟩
  have hp : (2 : Nat) ^ n ≤ 2 ^ 63 := Nat.pow_le_pow_right (by decide) hn
  have hp0 : 0 < (2 : Nat) ^ n := Nat.pow_pos (by decide)
  have e : ((2 : Int) ^ n - 1) = ((2 ^ n - 1 : Nat) : Int) := by
    rw [Int.natCast_sub (by omega)]; simp
  rw [e]
  have := bits_and_u64_nat m (2 ^ n - 1) (by omega) (by omega)
  rw [this, Nat.and_two_pow_sub_one_eq_mod]
  simp

/-- A number below q: the number (the last that was drawn, if all were too great, modulo q), the counter, and whether there was no block. -/
def numT (h : Nat → Int) (q : Int) : Nat → Int → Int → Int × Int × Bool
  | 0, c, x => (x % q, c, false)
  | n + 1, c, _ => if c = 1099511627776 then (0, c, true) else if firK (shaB (posL h c)) 8 % 2 ^ maskN q < q then (firK (shaB (posL h c)) 8 % 2 ^ maskN q, c + 1, false) else numT h q n (c + 1) (firK (shaB (posL h c)) 8 % 2 ^ maskN q)

theorem numT_most {h : Nat → Int} {q : Int} {n : Nat} {c x : Int} (hn : 1 ≤ n) (hc : c = 1099511627776) : numT h q n c x = (0, c, true) := by
  cases n with
  | zero => omega
  | succ n => rw [numT, if_pos hc]
theorem numT_step {h : Nat → Int} {q : Int} {n : Nat} {c x y : Int} (hc : c ≠ 1099511627776) (hy : firK (shaB (posL h c)) 8 % 2 ^ maskN q = y) : numT h q (n + 1) c x = if y < q then (y, c + 1, false) else numT h q n (c + 1) y := by
  rw [numT, if_neg hc, hy]

theorem Blk.grownOut {w w' : World} {g b : Nat} {t : TypeId} {cs : Array Value} (h : Blk w g t cs) (hg : w.grownBy w' (some b)) (hne : g ≠ b) : Blk w' g t cs := h.grown hg (by simpa using hne)

theorem grown_up_trans {a w w' : World} {b : Nat} (h : a.grownBy w (some b)) (hU : Up w w') : a.grownBy w' (some b) := grown_trans h (grown_up hU)

/-- The tables outlive what turns a source. -/
theorem TabS.grown {w w' : World} {b : Nat} {t : TypeId} {h : Nat → Int} {c : Int} {f : Bool} (hT : TabS w) (hb : Blk w b t (srcA h c f)) (hg : w.grownBy w' (some b)) : TabS w' := by
  obtain ⟨⟨t1, fr1, h1⟩, h2⟩ := hT
  have n1 : 0 ≠ b := fun e => by
    have hb' : w.heap[b]? = some (.cells (srcA h c f) t (0, 0)) := hb
    rw [e, hb'] at h1
    simp only [Option.some.injEq, Obj.cells.injEq] at h1
    have := congrArg Array.size h1.1
    rw [srcA_size, stA_size] at this
    omega
  have n2 : 2 ≠ b := fun e => by
    have := h2 0 (by omega)
    rw [e, hb.val ((srcA_drw h c f (by omega)).trans (drwA_get h c (by omega)))] at this
    simp at this
  refine ⟨⟨t1, fr1, ?_⟩, fun i hi => ?_⟩
  · rw [hg.block _ (Array.getElem?_eq_some_iff.1 h1).1 (by simpa using n1)]; exact h1
  · exact hg.cell (h2 i hi) (by simpa using n2)

theorem number_any (h : Nat → Int) (c : Int) (f : Bool) (q : Int) (b : Nat) (w : World) (hT : TabS w) (hB : Byt h) (hb : Blk w b 120 (srcA h c f)) (c0 : 0 ≤ c) (c1 : c ≤ 1099511627776) (hf : f = true → c = 1099511627776) (q0 : 1 ≤ q) (q1 : q ≤ 2305843009213693951) :
    Calls Tryd.prog 59 #[.pointer (some ⟨b, 0, none⟩), .int .i64 q] w fun e w' => e = .returned (.int .i64 (numT h q 256 c 0).1) ∧ Blk w' b 120 (srcA h (numT h q 256 c 0).2.1 (numT h q 256 c 0).2.2) ∧ w.grownBy w' (some b) := by
  obtain ⟨N, hN⟩ : ∃ N, maskN q = N := ⟨_, rfl⟩
  obtain ⟨hn1, hn2⟩ := maskN_le q0 q1
  rw [hN] at hn1 hn2
  have HN := hid hN
  have HN2 := hid hn2
  have hbit : Lib.bitLen (q - 1).toNat = N := hN
  have p0 : (0 : Int) < 2 ^ N := Int.pow_pos (by decide)
  have p1 : (2 : Int) ^ N ≤ 2305843009213693952 := by
    have h1 : (2 : Nat) ^ N ≤ 2 ^ 61 := Nat.pow_le_pow_right (by decide) hn1
    have h2 : ((2 ^ N : Nat) : Int) = 2 ^ N := by simp
    omega
  obtain ⟨M, hM⟩ : ∃ M : Int, 2 ^ N = M := ⟨_, rfl⟩
  obtain ⟨R, hR⟩ : ∃ R, numT h q 256 c 0 = R := ⟨_, rfl⟩
  rw [hR]
  have HR := hid hR
  have HT := hid hT
  have HB := hid hB
  have HBk := hid hb
  have HF := hid hf
  rw [hM] at p0 p1
  have HM := hid hM
  have HLen := hid (fun w' => Tryd.bits_Len64 (q - 1) w' (by omega) (by omega))
  rw [hbit] at HLen
  clear hR hT hB hb hf hM hN hn2 hbit
  go_enter Tryd.func59, Tryd.ntmps59
  go_wp2_with fail
  refine (HLen.out _).mono ?_
  rintro e w1 ⟨rfl, rfl⟩
  go_wp2_with fail
  have hw1 : IntKind.u64.wrap (2 ^ N) = M := by rw [HM.out, IntKind.wrap_u64]; omega
  have hw2 : IntKind.u64.wrap (M - 1) = M - 1 := by rw [IntKind.wrap_u64]; omega
  rw [hw1, hw2]
  obtain ⟨q9, hq9⟩ : ∃ q9, q - 1 = q9 := ⟨_, rfl⟩
  obtain ⟨N9, hN9⟩ : ∃ N9 : Int, (N : Int) = N9 := ⟨_, rfl⟩
  obtain ⟨M9, hM9⟩ : ∃ M9 : Int, M - 1 = M9 := ⟨_, rfl⟩
  have HM9 := hid hM9
  rw [hq9, hN9, hM9]
  have HC : Hid (0 ≤ c ∧ c ≤ 1099511627776) := hid ⟨c0, c1⟩
  have HM0 : Hid (0 < M ∧ M ≤ 2305843009213693952 ∧ N ≤ 61) := hid ⟨p0, p1, hn1⟩
  clear hw1 hw2 hq9 hN9 hM9 HLen p0 p1 hn1 c0 c1
  go_loopw [6, 14] (fun vx vi wr => ∃ (i : Nat) (x d : Int) (g : Bool), i ≤ 256 ∧ vi = .int .i64 i ∧ vx = .int .u64 x ∧ Hid (numT h q (256 - i) d x = R) ∧ Hid (0 ≤ x ∧ x < 2305843009213693952) ∧ Hid (0 ≤ d ∧ d ≤ 1099511627776) ∧ Hid (g = true → d = 1099511627776) ∧ Hid (i = 256 → g = false) ∧ Hid (Blk wr b 120 (srcA h d g)) ∧ Hid (w1.grownBy wr (some b)) ∧ Hid (TabS wr)) (fun _ vi _ => 256 - (intOf vi).toNat)
  case atStart => exact ⟨0, 0, c, f, by omega, rfl, rfl, HR, hid ⟨by omega, by omega⟩, HC, HF, hid (fun h => by omega), HBk, hid (grown_up (Up.refl _)), HT⟩
  case round =>
    clear HC HBk HT HF
    obtain ⟨i, x, d, g, hi, rfl, rfl, HRi, HX, HD, HGf, HL, HBk, HG, HT⟩ := hrel
    by_cases hlt : i < 256
    · obtain ⟨n, hn⟩ : ∃ n, 256 - i = n + 1 := ⟨255 - i, by omega⟩
      have Hn := hid hn
      rw [hn] at HRi
      clear hn
      go_wp2_with fail
      refine (block_any h d g b _ HT.out HB.out HBk.out HD.out.1 HD.out.2).mono ?_
      rintro e w2 ⟨rfl, hB2, hg2⟩
      have HG2 := hid (grown_trans HG.out hg2)
      have HT2 := hid (HT.out.grown HBk.out hg2)
      clear hg2 HBk HG HT
      by_cases hd : d = 1099511627776
      · have hF : blkF d g = true := by rw [blkF, if_pos hd]
        rw [hF] at hB2
        have HB2 := hid hB2
        have hr : R = (0, d, true) := by rw [← HRi.out, numT_most (by omega) hd]
        have hc : blkC d = d := by rw [blkC, if_pos hd]
        rw [hc] at HB2
        subst hr
        clear hB2 hF hc hd
        have f0 := HB2.out.val (srcA_full h d true)
        have l0 := HB2.out.lt
        unfold hashV
        generalize blkB h d = y at *
        go_wp2_with (refine wpList_store_rowTo rfl 28 _ _ rfl rfl _ _ rfl rfl 28 _ (heap_alloc_new _ _) (by rw [arrK_size]; kernel_rfl) (by rw [arrK_size]; rfl) arrK_one ?_; rw [World.setRow_alloc_new])
        go_ret
        exact ⟨rfl, HB2.out.alloc _, grown_up_trans HG2.out ((Up.refl _).alloc _)⟩
      · have hg : g = false := by
          cases g with
          | false => rfl
          | true => exact absurd (HGf.out rfl) hd
        subst hg
        have hF : blkF d false = false := by rw [blkF, if_neg hd]
        have hc : blkC d = d + 1 := by rw [blkC, if_neg hd]
        have hy : blkB h d = shaB (posL h d) := by rw [blkB, if_neg hd]
        rw [hF, hc] at hB2
        rw [hy]
        have HB2 := hid hB2
        have hdd := HD.out
        have HD2 : Hid (0 ≤ d + 1 ∧ d + 1 ≤ 1099511627776) := hid (by omega)
        have HSb := hid (fun (y : Int) hy => numT_step (h := h) (q := q) (n := n) (c := d) (x := x) (y := y) hd hy)
        rw [HRi.out, HN.out, HM.out] at HSb
        obtain ⟨Y, hY⟩ : ∃ Y, shaB (posL h d) = Y := ⟨_, rfl⟩
        have HBY : Hid (Byt Y) := hid (by rw [← hY]; exact shaB_range _)
        rw [hY] at HSb
        rw [hY]
        clear hB2 hF hc hd hdd hy hY HRi HGf HL HD HX
        have f0 := HB2.out.val (srcA_full h (d + 1) false)
        have l0 := HB2.out.lt
        unfold hashV
        go_wp2_with (first
          | (refine wpList_store_rowTo rfl 28 _ _ rfl rfl _ _ rfl rfl 28 _ (heap_alloc_new _ _) (by rw [arrK_size]; kernel_rfl) (by rw [arrK_size]; rfl) arrK_one ?_; rw [World.setRow_alloc_new])
          | (refine wpList_load_row rfl 28 _ rfl w2.heap.size rfl 28 (arrK .u8 Y 32) (0, 0) _ (Blk.new rfl rfl) Tryd.underlying28 rfl (by rw [arrK_size]; kernel_rfl) ?_))
        refine (first_any Y _ HBY.out).mono ?_
        rintro e w3 ⟨rfl, hU3⟩
        have HB3 := hid ((HB2.out.alloc (.cells (arrK .u8 Y 32) 28)).up hU3)
        have HG3 := hid (grown_up_trans (grown_up_trans HG2.out ((Up.refl _).alloc _)) hU3)
        have HT3 := hid ((HT2.out.up ((Up.refl _).alloc _)).up hU3)
        obtain ⟨r0, r1⟩ := firK_range HBY.out 8
        have hmask : bits .and .u64 (firK Y 8) M9 = firK Y 8 % M := by
          rw [← HM9.out, ← HM.out]
          exact u64_mask _ _ r0 r1 (by have := HM0.out.2.2; omega)
        have e0 := Int.emod_nonneg (firK Y 8) (show M ≠ 0 by have := HM0.out.1; omega)
        have e1 := Int.emod_lt_of_pos (firK Y 8) HM0.out.1
        have HSv := hid (HSb.out _ rfl)
        generalize firK Y 8 = z at *
        generalize z % M = y at *
        have e2 : y < 2305843009213693952 := by have := HM0.out.2.1; omega
        clear HB2 HG2 HT2 hU3 f0 l0 HSb r0 r1 e1
        by_cases hq : y < q
        · have d1 : decide (y < q) = true := by simpa using hq
          have hr : R = (y, d + 1, false) := by rw [HSv.out, if_pos hq]
          subst hr
          clear HSv
          go_wp2
          go_ret
          exact ⟨rfl, HB3.out, HG3.out⟩
        · have d1 : decide (y < q) = false := by simpa using hq
          have HRn : Hid (numT h q (256 - (i + 1)) (d + 1) y = R) := hid (by rw [HSv.out, if_neg hq, show 256 - (i + 1) = n by have := Hn.out; omega])
          have HX3 : Hid (0 ≤ y ∧ y < 2305843009213693952) := hid ⟨e0, e2⟩
          clear hq HSv
          go_wp2_with fail
          go_roundw
          case rel => exact ⟨i + 1, y, d + 1, false, by omega, by go_num, rfl, HRn, HX3, HD2, hid (fun h => by cases h), hid (fun _ => rfl), HB3, HG3, HT3⟩
          case measure => simp [intOf]; omega
    · obtain rfl : i = 256 := by omega
      have hg := HL.out rfl
      subst hg
      have hr : R = (x % q, d, false) := HRi.out.symm
      subst hr
      obtain ⟨x0, x1⟩ := HX.out
      have hm0 : (q == 0) = false := by simp; omega
      have htm : x.tmod q = x % q := Int.tmod_eq_emod_of_nonneg x0
      have e0 := Int.emod_nonneg x (show q ≠ 0 by omega)
      have e1 := Int.emod_lt_of_pos x (show 0 < q by omega)
      go_wp2
      go_ret
      exact ⟨rfl, HBk.out, HG.out⟩
end Go.Proofs.YtkimojconidhlaaDoor
