/- The number of a digest: doublings, and products. No program in sight. Package digest: the number of a digest. -/
import Derived.Test.YtdlcmpbpdbpanaaGreatDoorMUnlinkExplains29
import Derived.Test.YtdlcmpbpdbpanaaGreatDoorMUnlinkExplains18
import Derived.Test.YtdlcmpbpdbpanaaGreatDoorMUnlinkExplains3
namespace Go.Sp

theorem dbl_zero {x m : Int} (h0 : 0 ≤ x) (h1 : x < m) : x * 2 ^ 0 % m = x := by
  rw [show x * 2 ^ 0 = x by simp]
  exact Int.emod_eq_of_lt h0 h1
theorem dbl_step (x m : Int) (j : Nat) : (x * 2 ^ j % m + x * 2 ^ j % m) % m = x * 2 ^ (j + 1) % m := by
  rw [← Int.add_emod, Int.pow_succ, ← Int.mul_assoc]
  congr 1
  omega
theorem num_step (x c m : Int) : (x * 2 ^ 8 % m + c % m) % m = (x * 256 + c) % m := by
  rw [← Int.add_emod]
  rfl
theorem num_ref (x c m : Int) : (x * (256 % m) % m + c) % m = (x * 256 + c) % m := by
  have h : x * (256 % m) % m = x * 256 % m := by rw [Int.mul_emod, Int.emod_emod_of_dvd _ (Int.dvd_refl m), ← Int.mul_emod]
  rw [h, Int.emod_add_emod]
end Go.Sp
namespace Go.Proofs.YtdlcmpbpdbpanaaGreatDoor
open Go.RowKit Go.Sp
set_option maxHeartbeats 2000000
set_option maxRecDepth 20000

theorem Number_ok (h : Nat → Int) (m : Int) (w : World) (hB : Byt h) (m0 : 1 ≤ m) (m1 : m < 2305843009213693952) :
    Calls Tryz.prog 144 #[hashV h, .int .i64 m] w fun e w' => e = .returned (.tuple #[.int .i64 (numH h m), .int .i64 0]) ∧ Up w w' := by
  have hget := fun i (hi : i < 32) => arrK_get (k := .u8) (f := h) hi
  unfold hashV
  generalize arrK .u8 h 32 = cs at *
  have HG := hid hget
  have HB := hid hB
  have HN : Hid (numH h m = numB h m 16) := hid rfl
  clear hget hB
  have d0 : decide (m < 1) = false := by simp; omega
  have d1 : decide (m ≥ 2305843009213693952) = false := by simp; omega
  have dm : (m == 0) = false := by simp; omega
  go_enter Tryz.func144, Tryz.ntmps144
  go_wp2_with fail
  have HB0 := hid (Blk.new (w := w) (t := 31) (cs := cs) rfl rfl)
  have HU0 := hid ((Up.refl w).alloc (.cells cs 31))
  obtain ⟨o, ho⟩ : ∃ o, w.heap.size = o := ⟨_, rfl⟩
  rw [ho] at HB0
  rw [ho]
  clear ho
  go_loopw [6, 17] (fun vx vi wr => ∃ i : Nat, i ≤ 16 ∧ vi = .int .i64 i ∧ vx = .int .i64 (numB h m i) ∧ Hid (Blk wr o 31 cs) ∧ Hid (Up w wr)) (fun _ vi _ => 16 - (intOf vi).toNat)
  case atStart => exact ⟨0, by omega, rfl, rfl, HB0, HU0⟩
  case round =>
    clear HB0 HU0
    obtain ⟨i, hi, rfl, rfl, HBk, HU⟩ := hrel
    by_cases hlt : i < 16
    · have q1 := HBk.out.val (HG.out i (by omega))
      have r3 := HB.out i
      obtain ⟨x0, x1⟩ := numB_range (h := h) (m := m) (by omega) i
      have HS : Hid (numB h m (i + 1) = (numB h m i * 256 + h i) % m) := hid rfl
      generalize numB h m i = x at *
      generalize h i = c at *
      have hc0 := r3.1
      have hc1 := r3.2
      have HX : Hid (0 ≤ x ∧ x < m) := hid ⟨x0, x1⟩
      have di : decide ((i : Int) < 16) = true := by simp; omega
      clear r3
      go_wp2_with fail
      have HX0 : Hid (x = x * 2 ^ 0 % m) := hid (dbl_zero x0 x1).symm
      obtain ⟨wo, rfl⟩ : ∃ wo : World, wo = wr := ⟨_, rfl⟩
      clear x0 x1 q1
      go_loopw [6, 21] (fun vx vj wr => ∃ (j : Nat) (y : Int), j ≤ 8 ∧ vj = .int .i64 j ∧ vx = .int .i64 y ∧ Hid (y = x * 2 ^ j % m) ∧ 0 ≤ y ∧ y < m ∧ Hid (Up wo wr)) (fun _ vj _ => 8 - (intOf vj).toNat)
      case atStart => exact ⟨0, x, by omega, rfl, rfl, HX0, HX.out.1, HX.out.2, hid (Up.refl _)⟩
      case round =>
        obtain ⟨j, y, hj, rfl, rfl, HY, y0, y1, HU2⟩ := hrel
        by_cases hlt2 : j < 8
        · have HA := hid (fun w' => Add_ok y y m w' y0 y1 y0 y1 m1)
          have HY2 : Hid ((y + y) % m = x * 2 ^ (j + 1) % m) := hid (by rw [HY.out]; exact dbl_step x m j)
          have e0 := Int.emod_nonneg (y + y) (show m ≠ 0 by omega)
          have e1 := Int.emod_lt_of_pos (y + y) (show 0 < m by omega)
          go_wp2_with fail
          refine (HA.out _).mono ?_
          rintro e w2 ⟨rfl, hU3⟩
          have HU3 := hid (HU2.out.trans hU3)
          clear hU3 HY HU2 HA
          generalize (y + y) % m = z at *
          go_wp2_with fail
          go_roundw
          case rel => exact ⟨j + 1, z, by omega, by go_num, rfl, HY2, e0, e1, HU3⟩
          case measure => simp [intOf]; omega
        · obtain rfl : j = 8 := by omega
          have e0 := Int.emod_nonneg c (show m ≠ 0 by omega)
          have e1 := Int.emod_lt_of_pos c (show 0 < m by omega)
          have htm : c.tmod m = c % m := Int.tmod_eq_emod_of_nonneg hc0
          have HA := hid (fun w' => Add_ok y (c % m) m w' y0 y1 e0 e1 m1)
          have HZ : Hid ((y + c % m) % m = (x * 256 + c) % m) := hid (by rw [HY.out]; exact num_step x c m)
          go_wp2_with fail
          refine (HA.out _).mono ?_
          rintro e w2 ⟨rfl, hU3⟩
          have HU3 := hid (HU.out.trans (HU2.out.trans hU3))
          have HB3 := hid ((HBk.out.up HU2.out).up hU3)
          clear hU3 HY HU2 HA htm e0 e1
          generalize (y + c % m) % m = z at *
          go_wp2_with fail
          go_roundw
          case rel => exact ⟨i + 1, by omega, by go_num, by rw [HS.out, HZ.out], HB3, HU3⟩
          case measure => simp [intOf]; omega
    · obtain rfl : i = 16 := by omega
      go_wp2
      go_ret2
      exact ⟨by rw [HN.out]; rfl, HU.out⟩
end Go.Proofs.YtdlcmpbpdbpanaaGreatDoor
