/- The reference's SHA-256: numbers in bytes, the padded form, the constants. The reference's SHA-256: the words of a block. The reference's SHA-256: a round. The reference's SHA-256: joined, tagged, and the number of a digest. The reference's encoding: a number in bytes. -/
import Derived.Test.YtoaomjdpiealfaaGreatDoorMB7
import Derived.Test.YtoaomjdpiealfaaGreatDoorMB9
import Derived.Test.YtoaomjdpiealfaaGreatDoorMB10
import Derived.Test.YtoaomjdpiealfaaGreatDoorMB5
import Derived.Test.YtoaomjdpiealfaaGreatDoorMB2
import Derived.Test.YtoaomjdpiealfaaGreatDoorMB15
import Derived.Test.YtoaomjdpiealfaaGreatDoorMB16
import Derived.Test.YtoaomjdpiealfaaGreatDoorMB8
import Derived.Deep.RegionLaw
import Derived.IntWalk
import Derived.StillTailTactics
namespace Go.Proofs.YtoaomjdpiealfaaGreatDoor
open Go.RowKit Go.Sp
set_option maxHeartbeats 2000000
set_option maxRecDepth 20000

theorem rbytes_any (n : Int) (w : World) (_h0 : 0 ≤ n) (_h1 : n ≤ 9223372036854775807) :
    Calls Tryz.prog 226 #[.int .i64 n] w fun e w' => ∃ v, e = .returned v ∧ OwnS 5 .u8 w' w.heap.size v (beL 8 n) ∧ Up w w' := by
  have HT := hid (beL_take n)
  have HL := hid (beL_length 8 n)
  obtain ⟨S, hS⟩ : ∃ S, beL 8 n = S := ⟨_, rfl⟩
  rw [hS] at HT HL
  rw [hS]
  clear hS
  obtain ⟨o, ho⟩ : ∃ o, w.heap.size = o := ⟨_, rfl⟩
  have HOo := hid ho
  clear ho
  have HLen : Hid (∀ k, k ≤ 8 → (S.take k).length = k) := hid (fun k hk => by rw [List.length_take, HL.out]; omega)
  go_enter Tryz.func226, Tryz.ntmps226
  go_wp2_with fail
  go_loopw [3, 4] (fun vp vi wr => ∃ (k : Nat) (p : Option Addr) (cp : Nat) (j : Int), k ≤ 8 ∧ vi = .int .i64 j ∧ vp = .slice p k cp ∧ -1 ≤ j ∧ j ≤ 7 ∧ Hid (j = 7 - (k : Int)) ∧ Hid (OwnS 5 .u8 wr o (.slice p k cp) (S.take k)) ∧ Hid (Up w wr)) (fun _ vi _ => (intOf vi + 1).toNat)
  case atStart => exact ⟨0, none, 0, 7, by omega, rfl, rfl, by omega, by omega, hid rfl, hid own_none, hid (Up.refl w)⟩
  case round =>
    obtain ⟨k, p, cp, j, hk, rfl, rfl, j0, j1, HJ, HO, HU⟩ := hrel
    by_cases hlt : k < 8
    · have hj := HJ.out
      have hj0 : 0 ≤ j := by omega
      have d0 : decide (j ≥ 0) = true := by simpa using hj0
      have hj8 : (0 : Int) ≤ 8 * j := by omega
      have HE : Hid ((8 * j).toNat = 56 - 8 * k) := hid (by omega)
      have HTk : Hid (S.take k ++ [n / 2 ^ (8 * j).toNat % 256] = S.take (k + 1)) := hid (by rw [HT.out k hlt, HE.out])
      have HLk := hid (HLen.out k (by omega))
      have HLk1 := hid (HLen.out (k + 1) (by omega))
      have hbs : o ≤ wr.heap.size := by have := HU.out.size; have := HOo.out; omega
      have HJ2 : Hid (j - 1 = 7 - ((k + 1 : Nat) : Int)) := hid (by omega)
      clear hj
      go_wp2_with (at_builtin; refine wp_app infoU8 Tryz.underlying25 (by omega) rfl _ _ rfl o rfl rfl (HO.out.up ((Up.refl wr).alloc _)) (seq_new _ _ _) (by have := HLk.out; simp; omega) (by simp; omega) ?_; intro v' w' hO' hg')
      have hU' := (HU.out.alloc _).own (HO.out.up ((Up.refl wr).alloc _)) hg' (by have := HOo.out; omega)
      rw [HTk.out] at hO'
      obtain ⟨p', k', rfl, _, _⟩ := hO'.shape
      rw [HLk1.out] at hO'
      rw [HLk1.out]
      have HO' := hid hO'
      have HU' := hid hU'
      clear hO' hU' hg' HO HU
      go_wp2_with fail
      go_roundw
      case rel => exact ⟨k + 1, p', k', j - 1, by omega, rfl, rfl, by omega, by omega, HJ2, HO', HU'⟩
      case measure => simp [intOf]; omega
    · obtain rfl : k = 8 := by omega
      have d0 : decide (j ≥ 0) = false := by have := HJ.out; simp; omega
      have HE : Hid (S.take 8 = S) := hid (List.take_of_length_le (by rw [HL.out]; omega))
      go_wp2
      go_ret
      exact ⟨_, rfl, by rw [HOo.out, ← HE.out]; exact HO.out, HU.out⟩

theorem rconst_any (g : Nat) (w : World) (hg : w.heap.size = g) :
    Calls Tryz.prog 204 #[] w fun e w' => e = .returned (.slice (some ⟨g, 0, none⟩) 64 64) ∧ Blk w' g 186 (arrK .u32 (fun i => shaK.getD i 0) 64) ∧ Up w w' := by
  subst hg
  go_enter Tryz.func204, Tryz.ntmps204
  go_wp2
  go_ret
  exact ⟨rfl, Blk.new rfl (by kernel_rfl), (Up.refl w).alloc _⟩

theorem rpadded_any (v : Value) (xs : List Int) (w : World) (hv : SeqAt .u8 w v xs) (hl : xs.length ≤ 1099511627000) :
    Calls Tryz.prog 205 #[v] w fun e w' => ∃ v', e = .returned v' ∧ OwnS 5 .u8 w' w.heap.size v' (padL xs) ∧ Up w w' := by
  have HV := hid hv
  obtain ⟨a0, cap, rfl, hcap1, hcap2⟩ := hv.shape
  obtain ⟨n, hn⟩ : ∃ n, xs.length = n := ⟨_, rfl⟩
  obtain ⟨Z, hZ⟩ : ∃ Z, padZ n = Z := ⟨_, rfl⟩
  have HP : Hid (padL xs = padTo xs Z ++ beL 8 (8 * n)) := hid (by rw [padL_eq, hn, hZ])
  have hZ2 : ((n + 1 + Z) % 64 = 56 ∧ Z ≤ 63) ∧ ∀ z, z < Z → (n + 1 + z) % 64 ≠ 56 := by
    rw [← hZ]
    unfold padZ
    refine ⟨⟨by omega, by omega⟩, fun z hz => by omega⟩
  have HZ := hid hZ2
  have HLt := hid (fun z => padTo_length xs z)
  rw [hn] at HLt
  have HStep := hid (padTo_step xs)
  have HZero : Hid (xs ++ [128] = padTo xs 0) := hid (by simp [padTo])
  have HXN := hid hn
  rw [hn] at hl hcap1 HV
  rw [hn]
  obtain ⟨o, ho⟩ : ∃ o, w.heap.size = o := ⟨_, rfl⟩
  have HOo := hid ho
  have HBy := hid (fun w' => rbytes_any (8 * n) w' (by omega) (by omega))
  clear hv hn hZ hZ2 ho
  go_enter Tryz.func205, Tryz.ntmps205
  go_wp2_with (first
    | (at_builtin; refine wp_app infoU8 Tryz.underlying25 (by omega) rfl _ _ rfl w.heap.size (v := .slice (some ⟨w.heap.size, 0, none⟩) 0 0) rfl rfl (own_empty (Blk.new rfl rfl) (Nat.le_refl _)) (HV.out.up ((Up.refl w).alloc _)) (by have := HXN.out; simp; omega) (by simp) ?_; intro v1 w1 hO1 hg1; have hU1 := Up.own ((Up.refl w).alloc _) (own_empty (e := 5) (k := .u8) (Blk.new rfl rfl) (Nat.le_refl _)) hg1 (Nat.le_refl _); have hs1 := hU1.size)
    | (at_builtin; refine wp_app infoU8 Tryz.underlying25 (by omega) rfl _ _ rfl w.heap.size rfl rfl (hO1.up ((Up.refl w1).alloc _)) (seq_new _ _ _) (by have := HXN.out; simp; omega) (by simp; omega) ?_; intro v2 w2 hO2 hg2; have hU2 := (hU1.alloc _).own (hO1.up ((Up.refl w1).alloc _)) hg2 (Nat.le_refl _)))
  rw [List.nil_append, HZero.out] at hO2
  obtain ⟨p2, k2, rfl, _, _⟩ := hO2.shape
  have HLt0 : (padTo xs 0).length = n + 1 := HLt.out 0
  rw [HLt0] at hO2
  rw [HLt0]
  rw [HOo.out] at hO2
  clear HLt0
  have HO2 := hid hO2
  have HU2 := hid hU2
  clear hO1 hO2 hU1 hU2 hg1 hg2 hs1
  go_wp2_with fail
  go_loopw [3] (fun vp wr => ∃ (z : Nat) (p : Option Addr) (c : Nat), z ≤ Z ∧ vp = .slice p (n + 1 + z) c ∧ Hid (OwnS 5 .u8 wr o (.slice p (n + 1 + z) c) (padTo xs z)) ∧ Hid (Up w wr)) (fun vp _ => n + 1 + Z - lenOf vp)
  case atStart => exact ⟨0, _, _, by omega, rfl, HO2, HU2⟩
  case round =>
    clear HO2 HU2
    obtain ⟨z, p, c, hz, rfl, HO, HU⟩ := hrel
    have hsz : o ≤ wr.heap.size := by have := HU.out.size; have := HOo.out; omega
    by_cases hlt : z < Z
    · have HL := hid (HLt.out z)
      have HS := hid (HStep.out z)
      have HS1 := hid (HLt.out (z + 1))
      have hne := HZ.out.2 z hlt
      have hm : n + 1 + z ≤ n + 70 := by have := HZ.out.1.2; omega
      obtain ⟨m, hme⟩ : ∃ m, n + 1 + z = m := ⟨_, rfl⟩
      have HM := hid hme
      rw [hme] at HO HL hne hm
      rw [hme]
      clear hme
      have d1 : ((m : Int) % 64 != 56) = true := by simp; omega
      go_wp2_with (at_builtin; refine wp_app infoU8 Tryz.underlying25 (by omega) rfl _ _ rfl o rfl rfl (HO.out.up ((Up.refl wr).alloc _)) (seq_new _ _ _) (by have := HL.out; simp; omega) (by simp; omega) ?_; intro v' w' hO' hg')
      have hU' := (HU.out.alloc _).own (HO.out.up ((Up.refl wr).alloc _)) hg' (by have := HOo.out; omega)
      rw [HS.out] at hO'
      obtain ⟨p', k', rfl, _, _⟩ := hO'.shape
      rw [HS1.out] at hO'
      rw [HS1.out]
      have HO' := hid hO'
      have HU' := hid hU'
      clear hO' hU' hg'
      go_wp2_with fail
      go_roundw
      case rel => exact ⟨z + 1, _, _, by omega, rfl, HO', HU'⟩
      case measure =>
        have := HM.out
        simp
        omega
    · have hzZ : z = Z := by omega
      have HzZ := hid hzZ
      have HL := hid (HLt.out z)
      have d1 : (((n + 1 + z : Nat) : Int) % 64 != 56) = false := by
        have := HZ.out.1.1
        rw [← hzZ] at this
        simp
        omega
      have hm : n + 1 + z ≤ n + 70 := by have := HZ.out.1.2; omega
      clear hzZ
      obtain ⟨m, hme⟩ : ∃ m, n + 1 + z = m := ⟨_, rfl⟩
      have HM := hid hme
      rw [hme] at HO HL hm d1
      rw [hme]
      clear hme hlt hz
      go_wp2_with fail
      refine (HBy.out _).mono ?_
      rintro e w4 ⟨v4, rfl, hO4, hU4⟩
      have hsz4 := hU4.size
      have HPP : Hid (padTo xs z ++ beL 8 (8 * (n : Int)) = padL xs) := hid (by rw [HzZ.out, HP.out])
      go_wp2_with (at_builtin; refine wp_app infoU8 Tryz.underlying25 (by omega) rfl _ _ rfl o rfl rfl (HO.out.up hU4) hO4.seq (by have := HL.out; simp [beL_length]; omega) (by omega) ?_; intro v5 w5 hO5 hg5)
      have hU5 := (HU.out.trans hU4).own (HO.out.up hU4) hg5 (by have := HOo.out; omega)
      rw [HPP.out] at hO5
      go_ret
      exact ⟨_, rfl, by rw [HOo.out]; exact hO5, hU5⟩
end Go.Proofs.YtoaomjdpiealfaaGreatDoor
namespace Go.Proofs.YtoaomjdpiealfaaGreatDoor
open Go.RowKit Go.Sp
set_option maxHeartbeats 4000000
set_option maxRecDepth 20000

theorem infoU32 : (Tryz.prog.info? 186).map (fun i => (i.zero, i.size, i.bytes)) = some (some (.int .u32 0), 1, 4) := by kernel_rfl

theorem own_there {e : TypeId} {k : IntKind} {w : World} {base : Nat} {v : Value} {xs : List Int} (h : OwnS e k w base v xs) (hne : xs ≠ []) :
    ∃ g cap, v = .slice (some ⟨g, 0, none⟩) xs.length cap ∧ g < w.heap.size ∧ xs.length ≤ cap ∧ cap ≤ 9223372036854775807 ∧ ∀ i, i < xs.length → w.cell? ⟨g, i, none⟩ = some (.int k (xs.getD i 0)) := by
  have hc := h
  rcases h.2 with ⟨hv, hn⟩ | ⟨g, cap, cur, rfl, hb, hg, hn, hm, hs, ht⟩
  · exact absurd (List.length_eq_zero_iff.1 hn) hne
  · refine ⟨g, cap, rfl, (Array.getElem?_eq_some_iff.1 hg).1, hn, by unfold maxLen at hm; omega, fun i hi => ?_⟩
    rw [World.ownsRow.cellAt hc i (by omega)]
    simp [hi]

theorem cup {w w' : World} {b o : Nat} {v : Value} (hU : Up w w') (h : w.cell? ⟨b, o, none⟩ = some v) : w'.cell? ⟨b, o, none⟩ = some v := by rw [hU.cell (cell_in h)]; exact h

/-- The first n words. -/
def wL (b : Nat → Int) (n : Nat) : List Int := (List.range n).map (wAt b)
theorem wL_length (b : Nat → Int) (n : Nat) : (wL b n).length = n := by simp [wL]
theorem wL_succ (b : Nat → Int) (n : Nat) : wL b (n + 1) = wL b n ++ [wAt b n] := by
  unfold wL
  rw [List.range_succ, List.map_append]
  rfl
theorem wL_get {b : Nat → Int} {n i : Nat} (hi : i < n) : (wL b n).getD i 0 = wAt b i := by
  unfold wL
  simp [hi]

theorem rwords_any (v : Value) (xs : List Int) (w : World) (hv : SeqAt .u8 w v xs) (hl : xs.length = 64) (hB : Byt fun j => xs.getD j 0) :
    Calls Tryz.prog 206 #[v] w fun e w' => ∃ v', e = .returned v' ∧ OwnS 186 .u32 w' w.heap.size v' (wL (fun j => xs.getD j 0) 64) ∧ Up w w' := by
  have HV := hid hv
  obtain ⟨b0, o0, c0, rfl, _⟩ := hv.cell (i := 0) (by omega)
  obtain ⟨_, cap, hshape, hcap1, hcap2⟩ := hv.shape
  simp only [Value.slice.injEq] at hshape
  obtain ⟨-, -, rfl⟩ := hshape
  rw [hl] at hcap1 HV
  rw [hl]
  have HL := hid hl
  obtain ⟨b, hb⟩ : ∃ b : Nat → Int, (fun j => xs.getD j 0) = b := ⟨_, rfl⟩
  rw [hb]
  rw [hb] at hB
  have Hb := hid hb
  have HB := hid hB
  obtain ⟨o, ho⟩ : ∃ o, w.heap.size = o := ⟨_, rfl⟩
  have HOo := hid ho
  have HLn := hid (wL_length b)
  have HSn := hid (wL_succ b)
  clear hv hl hb hB ho
  go_enter Tryz.func206, Tryz.ntmps206
  go_wp2_with fail
  go_loopw [3, 4] (fun vp vi wr => ∃ (i : Nat) (p : Option Addr) (cp : Nat), i ≤ 16 ∧ vi = .int .i64 i ∧ vp = .slice p i cp ∧ Hid (OwnS 186 .u32 wr o (.slice p i cp) (wL b i)) ∧ Hid (Up w wr)) (fun _ vi _ => 16 - (intOf vi).toNat)
  case atStart => exact ⟨0, none, 0, by omega, rfl, rfl, hid own_none, hid (Up.refl w)⟩
  case round =>
    obtain ⟨i, p, cp, hi, rfl, rfl, HO, HU⟩ := hrel
    by_cases hlt : i < 16
    · go_wp2_with fail
      go_loop [5, 6] (fun vx vk => ∃ k : Nat, k ≤ 4 ∧ vk = .int .i64 k ∧ vx = .int .u32 (wordTo b i k)) (fun _ vk => 4 - (intOf vk).toNat)
      case atStart => exact ⟨0, by omega, rfl, rfl⟩
      case round =>
        obtain ⟨k, hk, rfl, rfl⟩ := hrel
        by_cases hkl : k < 4
        · obtain ⟨b1, o1, c1, hsh, hx⟩ := (HV.out.up HU.out).cell (i := 4 * i + k) (by rw [HL.out]; omega)
          simp only [Value.slice.injEq, Option.some.injEq, Addr.mk.injEq] at hsh
          obtain ⟨⟨rfl, rfl, -⟩, -, -⟩ := hsh
          rw [show xs.getD (4 * i + k) 0 = b (4 * i + k) from congrFun Hb.out _] at hx
          have HS : Hid (wordTo b i (k + 1) = wordTo b i k * 256 + b (4 * i + k)) := hid rfl
          have r1 := wordTo_range HB.out i k
          have r2 : (256 : Int) ^ k ≤ 16777216 := by
            have : k = 0 ∨ k = 1 ∨ k = 2 ∨ k = 3 := by omega
            rcases this with rfl | rfl | rfl | rfl <;> decide
          have r3 := HB.out (4 * i + k)
          generalize wordTo b i k = x at *
          generalize b (4 * i + k) = c at *
          have x0 := r1.1
          have x1 : x < 16777216 := by omega
          have c0' := r3.1
          have c1' := r3.2
          clear r1 r2 r3
          go_wp2_with fail
          go_round
          case rel => exact ⟨k + 1, by omega, by go_num, by rw [HS.out]⟩
          case measure => simp [intOf]; omega
        · obtain rfl : k = 4 := by omega
          have hw := wordTo_four b i
          have HW : Hid (wL b i ++ [wordTo b i 4] = wL b (i + 1)) := hid (by rw [HSn.out, hw, wAt_low hlt])
          have HLi := hid (HLn.out i)
          have HLi1 := hid (HLn.out (i + 1))
          have hbs : o ≤ wr.heap.size := by have := HU.out.size; have := HOo.out; omega
          clear hw
          generalize wordTo b i 4 = x at *
          go_wp2_with (at_builtin; refine wp_app infoU32 Tryz.underlying172 (by omega) rfl _ _ rfl o rfl rfl (HO.out.up ((Up.refl wr).alloc _)) (seq_new _ _ _) (by have := HLi.out; simp; omega) (by simp; omega) ?_; intro v' w' hO' hg')
          have hU' := (HU.out.alloc _).own (HO.out.up ((Up.refl wr).alloc _)) hg' (by have := HOo.out; omega)
          rw [HW.out] at hO'
          obtain ⟨p', k', rfl, _, _⟩ := hO'.shape
          rw [HLi1.out] at hO'
          rw [HLi1.out]
          have HO' := hid hO'
          have HU' := hid hU'
          clear hO' hU' hg' HO HU
          go_wp2_with fail
          go_roundw
          case rel => exact ⟨i + 1, p', k', by omega, by go_num, rfl, HO', HU'⟩
          case measure => simp [intOf]; omega
    · have hi16 : i = 16 := by omega
      have HI16 := hid hi16
      have d16 : decide ((i : Int) < 16) = false := by simp; omega
      clear hi16
      go_wp2_with fail
      go_loopw [3, 7] (fun vp vt wr => ∃ (t : Nat) (p : Option Addr) (cp : Nat), 16 ≤ t ∧ t ≤ 64 ∧ vt = .int .i64 t ∧ vp = .slice p t cp ∧ Hid (OwnS 186 .u32 wr o (.slice p t cp) (wL b t)) ∧ Hid (Up w wr)) (fun _ vt _ => 64 - (intOf vt).toNat)
      case atStart => exact ⟨16, p, cp, by omega, by omega, rfl, by rw [HI16.out], by rw [← HI16.out]; exact HO, HU⟩
      case round =>
        clear HO HU
        obtain ⟨t, p, cp, ht0, ht, rfl, rfl, HO, HU⟩ := hrel
        by_cases htl : t < 64
        · obtain ⟨g, cp', hsh, hg, hc1, hc2, hcell⟩ := own_there HO.out (by intro h; have := HLn.out t; rw [h] at this; simp at this; omega)
          rw [HLn.out] at hsh hc1 hcell
          simp only [Value.slice.injEq] at hsh
          obtain ⟨rfl, -, rfl⟩ := hsh
          have q1 := hcell (t - 15) (by omega)
          have q2 := hcell (t - 2) (by omega)
          have q3 := hcell (t - 16) (by omega)
          have q4 := hcell (t - 7) (by omega)
          rw [wL_get (by omega)] at q1 q2 q3 q4
          have HW := hid (HSn.out t)
          have HE := hid (wAt_high (b := b) ht0)
          have HLi := hid (HLn.out t)
          have HLi1 := hid (HLn.out (t + 1))
          have hbs : o ≤ wr.heap.size := by have := HU.out.size; have := HOo.out; omega
          have z1 : (16 : Int) ≤ t := by omega
          have z2 : (t : Int) < 64 := by omega
          clear hcell
          generalize wAt b (t - 15) = x at *
          generalize wAt b (t - 2) = y at *
          generalize wAt b (t - 16) = p at *
          generalize wAt b (t - 7) = q at *
          have Q3 := hid q3
          have Q4 := hid q4
          clear q3 q4
          go_wp2_with fail
          go_quiet (fail)
          have hud := (Up.refl wr).drewN nq
          have HUr := hid hud
          clear hud q1 q2
          generalize wr.drewN nq = w3 at *
          go_wp2_with (go_at_call 207; first | ((with_reducible (show Calls _ _ #[_, .int .i64 7] _ _)); refine (rright_7 _ _).mono ?_; rintro e w' ⟨rfl, hU'⟩; have HUr := hid (HUr.out.trans hU'); clear hU') | ((with_reducible (show Calls _ _ #[_, .int .i64 18] _ _)); refine (rright_18 _ _).mono ?_; rintro e w' ⟨rfl, hU'⟩; have HUr := hid (HUr.out.trans hU'); clear hU') | ((with_reducible (show Calls _ _ #[_, .int .i64 17] _ _)); refine (rright_17 _ _).mono ?_; rintro e w' ⟨rfl, hU'⟩; have HUr := hid (HUr.out.trans hU'); clear hU') | ((with_reducible (show Calls _ _ #[_, .int .i64 19] _ _)); refine (rright_19 _ _).mono ?_; rintro e w' ⟨rfl, hU'⟩; have HUr := hid (HUr.out.trans hU'); clear hU'))
          obtain ⟨s0, hs0⟩ : ∃ s0, sg0 x = s0 := ⟨_, rfl⟩
          obtain ⟨s1, hs1⟩ : ∃ s1, sg1 y = s1 := ⟨_, rfl⟩
          rw [show bits BinOp.xor IntKind.u32 (bits BinOp.xor IntKind.u32 (rotr x 7) (rotr x 18)) (x / 8) = s0 from hs0]
          rw [show bits BinOp.xor IntKind.u32 (bits BinOp.xor IntKind.u32 (rotr y 17) (rotr y 19)) (y / 1024) = s1 from hs1]
          rw [hs0, hs1] at HE
          have HW2 : Hid (wL b t ++ [IntKind.u32.wrap (IntKind.u32.wrap (IntKind.u32.wrap (p + s0) + q) + s1)] = wL b (t + 1)) := hid (by rw [HW.out, HE.out]; rfl)
          have q3 := cup HUr.out Q3.out
          have q4 := cup HUr.out Q4.out
          have HO4 := hid (HO.out.up HUr.out)
          have HU4 := hid (HU.out.trans HUr.out)
          have hg4 : g < w'.heap.size := by have := HUr.out.size; omega
          have hb4 : o ≤ w'.heap.size := by have := HUr.out.size; omega
          clear hs0 hs1 HE HW HUr HO HU Q3 Q4 hg hbs
          have e16 : IntKind.i64.wrap ((t : Int) - 16) = (t : Int) - 16 := IntWalk.i64_in _ (by omega)
          have e7 : IntKind.i64.wrap ((t : Int) - 7) = (t : Int) - 7 := IntWalk.i64_in _ (by omega)
          have f16 : ((t : Int) - 16).toNat = t - 16 := by omega
          have f7 : ((t : Int) - 7).toNat = t - 7 := by omega
          have g16 : (t : Int) - 16 < t := by omega
          have g7 : (t : Int) - 7 < t := by omega
          have h7 : (7 : Int) ≤ t := by omega
          go_region_law ((refine step_app infoU32 Tryz.underlying172 (by omega) (by rfl) _ _ (by rfl) o (by rfl) (by rfl) (HO4.out.up ((Up.refl _).drew.alloc _)) (seq_new_at (by simp)) (by have := HLi.out; simp; omega) (by simp; omega) ?_; intro v5 w5 hO5 hg5))
          all_goals (
            have hU5 := Up.own (HU4.out.trans ((Up.refl w').drew.alloc _)) (HO4.out.up ((Up.refl w').drew.alloc _)) hg5 (by have := HOo.out; omega)
            rw [HW2.out] at hO5
            obtain ⟨p5, k5, rfl, _, _⟩ := hO5.shape
            rw [HLi1.out] at hO5
            rw [HLi1.out]
            have HO5 := hid hO5
            have HU5 := hid hU5
            clear hO5 hU5 hg5 HO4 HU4 e16 e7 f16 f7 g16 g7 h7 q3 q4
            go_wp2_with fail
            go_roundw
            case rel => exact ⟨t + 1, p5, k5, by omega, by omega, by go_num, rfl, HO5, HU5⟩
            case measure => simp [intOf]; omega)
        · obtain rfl : t = 64 := by omega
          go_wp2
          go_ret
          exact ⟨_, rfl, by rw [HOo.out]; exact HO.out, HU.out⟩
end Go.Proofs.YtoaomjdpiealfaaGreatDoor
namespace Go.Proofs.YtoaomjdpiealfaaGreatDoor
open Go.RowKit Go.Sp
set_option maxHeartbeats 4000000
set_option maxRecDepth 20000

theorem cupF {w : World} {b o : Nat} {v : Value} (h : w.cell? ⟨b, o, none⟩ = some v) (p : UpFrom w) : p.w'.cell? ⟨b, o, none⟩ = some v := cup p.up h

/-- Eight words in a block, from its head on. -/
def EightAt (w : World) (g : Nat) (s : St) : Prop := ∀ i, i < 8 → w.cell? ⟨g, i, none⟩ = some (.int .u32 (s.get i))
theorem EightAt.up {w w' : World} {g : Nat} {s : St} (h : EightAt w g s) (hU : Up w w') : EightAt w' g s := fun i hi => cup hU (h i hi)
theorem eight_blk {w : World} {g : Nat} {t : TypeId} {s : St} (h : Blk w g t (stA s)) : EightAt w g s := fun i hi => by
  rw [stA_arr] at h
  exact h.val (arrK_get hi)
theorem own_there2 {e : TypeId} {k : IntKind} {w w' : World} {base b : Nat} {v : Value} {xs : List Int} (h : OwnS e k w base v xs) (hg : w.grownBy w' (some b)) (hb : b < base) : OwnS e k w' base v xs := by
  refine ⟨h.1, ?_⟩
  rcases h.2 with h2 | ⟨g, cap, cur, h1, h2, h3, h4⟩
  · exact .inl h2
  · exact .inr ⟨g, cap, cur, h1, h2, by rw [hg.block g (Array.getElem?_eq_some_iff.1 h3).1 (by simp; omega)]; exact h3, h4⟩
theorem grown_cell (w : World) (o i : Nat) (v : Value) : w.grownBy (w.setCell ⟨o, i, none⟩ v) (some o) :=
  ⟨rfl, rfl, rfl, by simp [World.setCell], fun k _ hr => Below.heap_setCell w _ v k (fun e => hr (by rw [e]))⟩

theorem EightAt.wrote {w : World} {g o i : Nat} {s : St} {v : Value} (h : EightAt w g s) (hne : g ≠ o) : EightAt (w.setCell ⟨o, i, none⟩ v) g s := fun j hj => (grown_cell w o i v).cell (h j hj) (by simp; omega)

theorem seq8 {w : World} {g : Nat} {t : TypeId} {s : St} (h : Blk w g t (stA s)) : SeqAt .u32 w (.slice (some ⟨g, 0, none⟩) 8 8) [s.a, s.b, s.c, s.d, s.e, s.f, s.g, s.h] :=
  seq_block h [s.a, s.b, s.c, s.d, s.e, s.f, s.g, s.h] 0 8 8 rfl (Nat.le_refl _) (by decide) fun i hi => by
    have : i = 0 ∨ i = 1 ∨ i = 2 ∨ i = 3 ∨ i = 4 ∨ i = 5 ∨ i = 6 ∨ i = 7 := by omega
    rcases this with rfl | rfl | rfl | rfl | rfl | rfl | rfl | rfl <;> rfl

theorem blk_byt_cut {p : List Int} (h : ∀ x ∈ p, 0 ≤ x ∧ x ≤ 255) (m : Nat) : Byt fun j => ((p.drop m).take (m + 64 - m)).getD j 0 := fun j => byt_getD (fun x hx => h x (List.mem_of_mem_drop (List.mem_of_mem_take hx))) j

theorem rSum_any (v : Value) (xs : List Int) (w : World) (hv : SeqAt .u8 w v xs) (hl : xs.length ≤ 1099511627000) (hB : ∀ x ∈ xs, 0 ≤ x ∧ x ≤ 255) :
    Calls Tryz.prog 167 #[v] w fun e w' => e = .returned (hashV (shaB xs)) ∧ Up w w' := by
  have HPad := hid (fun w' (hU : Up w w') => rpadded_any v xs w' (hv.up hU) hl)
  have HBy := hid (padL_byt hB)
  obtain ⟨P, hP⟩ : ∃ P, padL xs = P := ⟨_, rfl⟩
  obtain ⟨N, hN⟩ : ∃ N, P.length / 64 = N := ⟨_, rfl⟩
  have hPl : P.length = 64 * N ∧ 64 * N ≤ 1099511627072 + 72 := by
    have := padL_length xs
    rw [hP] at this
    omega
  have HPl := hid hPl
  have HSha : Hid (shaB xs = outB (blocksS P N)) := hid (by rw [← hN, ← hP]; rfl)
  rw [hP] at HPad HBy
  obtain ⟨o, ho⟩ : ∃ o, w.heap.size = o := ⟨_, rfl⟩
  have HOo := hid ho
  clear hv hB hP hN hPl hl
  go_enter Tryz.func167, Tryz.ntmps167
  clear ho
  go_wp2_with fail
  refine (rconst_any (w.heap.size + 2) _ (by simp)).mono ?_
  rintro e w1 ⟨rfl, hK1, hU1⟩
  have HZ1 : Hid (Blk w1 w.heap.size 55 (arrK .u8 (fun _ => 0) 32)) := hid (((Blk.new rfl zero32).alloc _).up hU1)
  have HH1 : Hid (Blk w1 (w.heap.size + 1) 186 (stA shaStart)) := hid ((Blk.new (by simp) rfl).up hU1)
  have HK1 := hid hK1
  have HU1 := hid ((((Up.refl w).alloc _).alloc _).trans hU1)
  obtain ⟨kg, hkg⟩ : ∃ kg, w.heap.size + 2 = kg := ⟨_, rfl⟩
  rw [hkg] at HK1
  rw [hkg]
  have hkg2 : kg = o + 2 := by rw [← hkg, ← HOo.out]
  clear hkg
  subst hkg2
  have ho := HOo.out
  rw [ho] at HZ1 HH1
  rw [ho]
  clear hU1 hK1 ho
  go_wp2_with fail
  refine (HPad.out _ HU1.out).mono ?_
  rintro e w2 ⟨v2, rfl, hO2, hU2⟩
  have hkw : o + 2 < w1.heap.size := HK1.out.lt
  obtain ⟨p2, c2, rfl, hc1, hc2⟩ := hO2.shape
  have HPs := hid (hO2.mono (base' := o + 2) (by omega))
  have HZ2 := hid (HZ1.out.up hU2)
  have HH2 := hid (HH1.out.up hU2)
  have HK2 := hid (HK1.out.up hU2)
  have HU2 := hid (HU1.out.trans hU2)
  have hN0 := HPl.out.2
  rw [HPl.out.1] at HPs hc1
  rw [HPl.out.1]
  clear hU2 hO2 HZ1 HH1 HK1 HU1 HPad hkw
  go_wp2_with fail
  go_loopw [6] (fun va wr => ∃ k : Nat, k ≤ N ∧ va = .int .i64 ((64 * k : Nat) : Int) ∧ Hid (OwnS 5 .u8 wr (o + 2) (.slice p2 (64 * N) c2) P) ∧ Hid (Blk wr o 55 (arrK .u8 (fun _ => 0) 32)) ∧ Hid (Blk wr (o + 1) 186 (stA (blocksS P k))) ∧ Hid (Blk wr (o + 2) 186 (arrK .u32 (fun i => shaK.getD i 0) 64)) ∧ Hid (Up w wr)) (fun va _ => 64 * N - (intOf va).toNat)
  case atStart => exact ⟨0, by omega, rfl, HPs, HZ2, HH2, HK2, HU2⟩
  case round =>
    clear HPs HZ2 HH2 HK2 HU2
    obtain ⟨k, hk, rfl, HP, HZ, HH, HK, HU⟩ := hrel
    by_cases hkN : k < N
    · have hlt : ((64 * k : Nat) : Int) < ((64 * N : Nat) : Int) := by omega
      have dlt : decide (((64 * k : Nat) : Int) < ((64 * N : Nat) : Int)) = true := by simpa using hlt
      obtain ⟨pb, cb, hsh, hpl, hcb1, hcb2, _⟩ := own_there HP.out (by intro h; have := HPl.out.1; rw [h] at this; simp at this; omega)
      simp only [Value.slice.injEq] at hsh
      obtain ⟨rfl, -, rfl⟩ := hsh
      rw [HPl.out.1] at hcb1
      obtain ⟨m, hm⟩ : ∃ m, 64 * k = m := ⟨_, rfl⟩
      obtain ⟨M, hM⟩ : ∃ M, 64 * N = M := ⟨_, rfl⟩
      have Hm := hid hm
      have HM := hid hM
      have hmM : m + 64 ≤ M := by omega
      have hM0 : M ≤ 1099511627144 := by omega
      rw [hm, hM]
      rw [hm, hM] at dlt
      have hcbm : M ≤ c2 := by omega
      have i1 : (0 : Int) ≤ m := by omega
      have i2 : (m : Int) ≤ (m : Int) + 64 := by omega
      have i3 : (m : Int) + 64 ≤ c2 := by omega
      have dltn : decide (m < M) = true := by simp; omega
      have hs64 : SeqAt .u8 wr (.slice (some ⟨pb, m, none⟩) 64 (c2 - m)) ((P.drop m).take 64) := by
        have h := HP.out.seq.sub (lo := m) (hi := m + 64) (c := c2 - m) (by omega) (by omega) (by omega) (by omega)
        rw [Nat.zero_add, show m + 64 - m = 64 by omega] at h
        exact h
      have hl64 : ((P.drop m).take 64).length = 64 := by simp; have := HPl.out.1; omega
      have hby : Byt fun j => ((P.drop m).take 64).getD j 0 := fun j => byt_getD (fun x hx => HBy.out x (List.mem_of_mem_drop (List.mem_of_mem_take hx))) j
      have HW := hid (rwords_any _ _ wr hs64 hl64 hby)
      obtain ⟨S0, hS0⟩ : ∃ S0, blocksS P k = S0 := ⟨_, rfl⟩
      have hmix : mixS (fun j => ((P.drop m).take 64).getD j 0) S0 = blocksS P (k + 1) := by
        rw [blocksS, hS0]
        refine mixS_cut (fun j hj => ?_) S0
        rw [← hm]
        simp [blkAt, List.getD_eq_getElem?_getD, hj]
      have HMix := hid hmix
      rw [hS0] at HH
      obtain ⟨b, hb⟩ : ∃ b : Nat → Int, (fun j => ((P.drop m).take 64).getD j 0) = b := ⟨_, rfl⟩
      rw [hb] at HW HMix
      clear hm hM hlt hcb1 hs64 hl64 hby hmix hS0 hb
      go_wp2_with fail
      refine HW.out.mono ?_
      rintro e w5 ⟨v5, rfl, hO5, hU5⟩
      obtain ⟨wg, wc, rfl, hwg, hwc1, hwc2, hwcell⟩ := own_there hO5 (by intro h; have := wL_length b 64; rw [h] at this; simp at this)
      rw [wL_length] at hwc1 hwcell
      rw [wL_length]
      have HWc : Hid (∀ i, i < 64 → w5.cell? ⟨wg, i, none⟩ = some (.int .u32 (wAt b i))) := hid (fun i hi => by rw [hwcell i hi, wL_get hi])
      have HP5 := hid (HP.out.up hU5)
      have HZ5 := hid (HZ.out.up hU5)
      have HH5 := hid (HH.out.up hU5)
      have HK5 := hid (HK.out.up hU5)
      have HU5 := hid (HU.out.trans hU5)
      have hw5 : o + 2 < w5.heap.size := by have := HK5.out.lt; omega
      clear hO5 hU5 hwcell HW HP HZ HH HK HU i1 i2 i3
      go_wp2_with (at_builtin; refine wp_app infoU32 Tryz.underlying172 (by omega) rfl _ _ rfl w5.heap.size (v := .slice (some ⟨w5.heap.size, 0, none⟩) 0 0) rfl rfl (own_empty (Blk.new rfl rfl) (Nat.le_refl _)) (seq8 (HH5.out.alloc _)) (by simp) (by simp) ?_; intro v6 w6 hO6 hg6)
      have hU6 := Up.own ((Up.refl w5).alloc _) (own_empty (e := 186) (k := .u32) (Blk.new rfl rfl) (Nat.le_refl _)) hg6 (Nat.le_refl _)
      obtain ⟨g6, c6, rfl, hg6l, hc61, hc62, hcell6⟩ := own_there hO6 (by simp)
      have hg6b : w5.heap.size ≤ g6 := hO6.block g6 (by simp [Value.ownBlock])
      have HE6 : Hid (EightAt w6 g6 (rnds b S0 0)) := hid (fun i hi => by
        rw [hcell6 i (by simpa using hi)]
        have : i = 0 ∨ i = 1 ∨ i = 2 ∨ i = 3 ∨ i = 4 ∨ i = 5 ∨ i = 6 ∨ i = 7 := by omega
        rcases this with rfl | rfl | rfl | rfl | rfl | rfl | rfl | rfl <;> rfl)
      have hlen8 : ([] ++ [S0.a, S0.b, S0.c, S0.d, S0.e, S0.f, S0.g, S0.h]).length = 8 := rfl
      rw [hlen8] at hc61
      rw [hlen8]
      have HWc6 : Hid (∀ i, i < 64 → w6.cell? ⟨wg, i, none⟩ = some (.int .u32 (wAt b i))) := hid (fun i hi => cup hU6 (HWc.out i hi))
      have HP6 := hid (HP5.out.up hU6)
      have HZ6 := hid (HZ5.out.up hU6)
      have HH6 := hid (HH5.out.up hU6)
      have HK6 := hid (HK5.out.up hU6)
      have HU6 := hid (HU5.out.trans hU6)
      have hg6o : o + 2 < g6 := by omega
      clear hO6 hg6 hcell6 hlen8 hU6 HWc HP5 HZ5 HH5 HK5 HU5 hw5 hg6b
      go_wp2_with fail
      go_loopw [8, 9] (fun vv vt wq => ∃ (t g c : Nat), t ≤ 64 ∧ vt = .int .i64 t ∧ vv = .slice (some ⟨g, 0, none⟩) 8 c ∧ 8 ≤ c ∧ c ≤ 9223372036854775807 ∧ g < wq.heap.size ∧ o + 2 < g ∧ Hid (EightAt wq g (rnds b S0 t)) ∧ Hid (Up w6 wq)) (fun _ vt _ => 64 - (intOf vt).toNat)
      case atStart => exact ⟨0, g6, c6, by omega, rfl, rfl, hc61, hc62, hg6l, hg6o, HE6, hid (Up.refl _)⟩
      case round =>
        clear HE6 hg6l hg6o hc61 hc62
        obtain ⟨t, g, c, ht, rfl, rfl, hc1', hc2', hgl, hgo, HE, HUq⟩ := hrel
        by_cases htl : t < 64
        · have dt : decide ((t : Int) < 64) = true := by simp; omega
          have dtn : decide (t < 64) = true := by simp; omega
          have HN : Hid (rnds b S0 (t + 1) = rnd (rnds b S0 t) (shaK.getD t 0) (wAt b t)) := hid rfl
          have q1 := cup HUq.out (HK6.out.val (arrK_get htl))
          have q2 := cup HUq.out (HWc6.out t htl)
          generalize shaK.getD t 0 = K at *
          generalize wAt b t = W at *
          obtain ⟨X, hX⟩ : ∃ X, rnds b S0 t = X := ⟨_, rfl⟩
          rw [hX] at HE HN
          obtain ⟨A, B, C, D, E, F, G, H⟩ := X
          have z2 : (t : Int) < 64 := by omega
          clear hX
          have f0 := cupF (HE.out 0 (by omega))
          have f1 := cupF (HE.out 1 (by omega))
          have f2 := cupF (HE.out 2 (by omega))
          have f3 := cupF (HE.out 3 (by omega))
          have f4 := cupF (HE.out 4 (by omega))
          have f5 := cupF (HE.out 5 (by omega))
          have f6 := cupF (HE.out 6 (by omega))
          have f7 := cupF (HE.out 7 (by omega))
          have f8 := cupF q1
          have f9 := cupF q2
          simp only [St.get] at f0 f1 f2 f3 f4 f5 f6 f7
          go_wp2_with fail
          refine wp_region_up (by kernel_rfl) (by kernel_rfl) ?_
          repeat (go_big_quiet_step ((first | ((with_reducible (show Calls _ _ #[_, .int .i64 6] _ _)); exact Calls.up_of (rright_6 _ _)) | ((with_reducible (show Calls _ _ #[_, .int .i64 11] _ _)); exact Calls.up_of (rright_11 _ _)) | ((with_reducible (show Calls _ _ #[_, .int .i64 25] _ _)); exact Calls.up_of (rright_25 _ _)))))
          refine wpQuiet_nil ?_
          rintro _ ⟨p, rfl⟩
          obtain ⟨x1, hx1⟩ : ∃ x1, (((H + bits .xor .u32 (bits .xor .u32 (rotr E 6) (rotr E 11)) (rotr E 25) + bits .xor .u32 (bits .and .u32 E F) (bits .and .u32 (bits .xor .u32 (if IntKind.u32.signed = true then (-1 : Int) else IntKind.u32.max) E) G) + K) % 4294967296 + W) % 4294967296) = x1 := ⟨_, rfl⟩
          rw [hx1]
          have HX1 : Hid (rndX ⟨A, B, C, D, E, F, G, H⟩ K W = x1) := hid (by rw [← hx1]; simp only [rndX, bs1, chs, plus, u32_not, IntKind.wrap_u32]; omega)
          have HU7 := hid (HUq.out.trans p.up)
          have HE7 := hid (HE.out.up p.up)
          have hgl7 : g < p.w'.heap.size := by have := p.up.size; omega
          generalize p.w' = w7 at *
          clear hx1 f0 f1 f2 f3 f4 f5 f6 f7 f8 f9 q1 q2 HE HUq hgl p
          have f0 := cupF (HE7.out 0 (by omega))
          have f1 := cupF (HE7.out 1 (by omega))
          have f2 := cupF (HE7.out 2 (by omega))
          have f3 := cupF (HE7.out 3 (by omega))
          have f4 := cupF (HE7.out 4 (by omega))
          have f5 := cupF (HE7.out 5 (by omega))
          have f6 := cupF (HE7.out 6 (by omega))
          have f7 := cupF (HE7.out 7 (by omega))
          simp only [St.get] at f0 f1 f2 f3 f4 f5 f6 f7
          go_wp2_with fail
          refine wp_region_up (by kernel_rfl) (by kernel_rfl) ?_
          repeat (go_big_quiet_step ((first | ((with_reducible (show Calls _ _ #[_, .int .i64 2] _ _)); exact Calls.up_of (rright_2 _ _)) | ((with_reducible (show Calls _ _ #[_, .int .i64 13] _ _)); exact Calls.up_of (rright_13 _ _)) | ((with_reducible (show Calls _ _ #[_, .int .i64 22] _ _)); exact Calls.up_of (rright_22 _ _)))))
          refine wpQuiet_nil ?_
          rintro _ ⟨p, rfl⟩
          obtain ⟨y1, hy1⟩ : ∃ y1, ((bits .xor .u32 (bits .xor .u32 (rotr A 2) (rotr A 13)) (rotr A 22) + bits .xor .u32 (bits .xor .u32 (bits .and .u32 A B) (bits .and .u32 A C)) (bits .and .u32 B C)) % 4294967296) = y1 := ⟨_, rfl⟩
          rw [hy1]
          have HY1 : Hid (rndY ⟨A, B, C, D, E, F, G, H⟩ = y1) := hid (by rw [← hy1]; simp only [rndY, bs0, maj, plus, IntKind.wrap_u32])
          have HU8 := hid (HU7.out.trans p.up)
          have HE8 := hid (HE7.out.up p.up)
          have hgl8 : g < p.w'.heap.size := by have := p.up.size; omega
          generalize p.w' = w8 at *
          clear hy1 f0 f1 f2 f3 f4 f5 f6 f7 HE7 HU7 hgl7 p
          have f0 := HE8.out 0 (by omega)
          have f1 := HE8.out 1 (by omega)
          have f2 := HE8.out 2 (by omega)
          have f3 := HE8.out 3 (by omega)
          have f4 := HE8.out 4 (by omega)
          have f5 := HE8.out 5 (by omega)
          have f6 := HE8.out 6 (by omega)
          simp only [St.get] at f0 f1 f2 f3 f4 f5 f6
          go_wp2_with fail
          go_still_tail 26, (by kernel_rfl)
          change wpList _ _ _ _ _ w8.drew
          go_wp2
          go_roundw
          case rel => exact ⟨t + 1, w8.heap.size, 8, by omega, by go_num, rfl, by omega, by omega, by simp, by omega, hid (eight_blk (Blk.new rfl (by rw [HN.out]; simp only [rnd, HX1.out, HY1.out, plus, IntKind.wrap_u32]; rfl))), hid ((HU8.out.drew).alloc _)⟩
          case measure => simp [intOf]; omega
        · have ht64 : t = 64 := by omega
          rw [ht64] at HE
          rw [show (t : Int) = 64 by omega]
          clear ht64
          have HAll := hid (sMix_all b S0)
          have HSz := hid (sMix_zero S0 (rnds b S0 64))
          rw [HMix.out] at HAll
          obtain ⟨V, hV⟩ : ∃ V, rnds b S0 64 = V := ⟨_, rfl⟩
          rw [hV] at HE HAll HSz
          clear hV
          have HPq := hid (HP6.out.up HUq.out)
          have HZq := hid (HZ6.out.up HUq.out)
          have HHq := hid (HH6.out.up HUq.out)
          have HKq := hid (HK6.out.up HUq.out)
          have HUq2 := hid (HU6.out.trans HUq.out)
          rw [HSz.out] at HHq
          clear HP6 HZ6 HH6 HK6 HU6 HUq HWc6
          go_wp2_with fail
          go_loopw [12] (fun vi wz => ∃ i : Nat, i ≤ 8 ∧ vi = .int .i64 i ∧ Hid (OwnS 5 .u8 wz (o + 2) (.slice (some ⟨pb, 0, none⟩) M c2) P) ∧ Hid (Blk wz o 55 (arrK .u8 (fun _ => 0) 32)) ∧ Hid (Blk wz (o + 1) 186 (arrK .u32 (sMix S0 V i) 8)) ∧ Hid (Blk wz (o + 2) 186 (arrK .u32 (fun i => shaK.getD i 0) 64)) ∧ Hid (EightAt wz g V) ∧ Hid (Up w wz)) (fun vi _ => 8 - (intOf vi).toNat)
          case atStart => exact ⟨0, by omega, rfl, by rw [← HM.out]; exact HPq, HZq, HHq, HKq, HE, HUq2⟩
          case round =>
            clear HPq HZq HHq HKq HE HUq2
            obtain ⟨i, hi, rfl, HP, HZ, HH, HK, HE, HU⟩ := hrel
            by_cases hil : i < 8
            · have q1 := HH.out.val (sMix_at S0 V hil)
              have q2 := HE.out i hil
              have q3 := HH.out.thawed i
              have HN := hid (sMix_step S0 V i)
              have di : decide ((i : Int) < 8) = true := by simp; omega
              have din : decide (i < 8) = true := by simp; omega
              have z1 : (i : Int) < c := by omega
              have z2 : i < c := by omega
              have z3 : (i : Int) < 8 := by omega
              have z4 : (0 : Int) ≤ i := by omega
              generalize S0.get i = x at *
              generalize V.get i = y at *
              go_wp2_with fail
              go_still_tail 12, (by kernel_rfl)
              change wpList _ _ _ _ _ wr.drew
              have hud := (Up.refl wr).drew
              go_wp2
              go_roundw
              case rel => exact ⟨i + 1, by omega, by go_num, hid (own_there2 (HP.out.up hud) (grown_cell _ (o + 1) i _) (by omega)), hid ((HZ.out.up hud).apart (by show o ≠ o + 1; omega) _), hid (by rw [← HN.out, show plus x y = (x + y) % 4294967296 from IntKind.wrap_u32 _]; exact (HH.out.up hud).wrote _ _), hid ((HK.out.up hud).apart (by show o + 2 ≠ o + 1; omega) _), hid ((HE.out.up hud).wrote (by omega)), hid ((HU.out.drew).setCell (by have := HOo.out; show w.heap.size ≤ o + 1; omega) _)⟩
              case measure => simp [intOf]; omega
            · have HH2 := hid HH.out
              rw [show i = 8 by omega, HAll.out] at HH2
              clear HH HE
              go_wp2_with fail
              go_roundw
              case rel => exact ⟨k + 1, by omega, congrArg (Value.int .i64) (by have := Hm.out; omega), HP, HZ, HH2, HK, HU⟩
              case measure => have := HM.out; have := Hm.out; simp [intOf]; omega
    · have hkN2 : k = N := by omega
      have HSha2 : Hid (shaB xs = outB (blocksS P k)) := hid (by rw [hkN2]; exact HSha.out)
      obtain ⟨S, hS⟩ : ∃ S, blocksS P k = S := ⟨_, rfl⟩
      rw [hS] at HH HSha2
      clear hS HP HK
      subst hkN2
      obtain ⟨m, hm⟩ : ∃ m, 64 * k = m := ⟨_, rfl⟩
      rw [hm]
      clear hm HPl HBy
      go_wp2_with fail
      obtain ⟨f, hf⟩ : ∃ f : Nat → Int, outB S = f := ⟨_, rfl⟩
      have HF := hid hf
      rw [hf] at HSha2
      clear hf
      obtain ⟨g, hg⟩ : ∃ g, wr.heap.size = g := ⟨_, rfl⟩
      have hog : o + 1 < g := by have := HH.out.lt; omega
      rw [hg]
      go_loopw [14] (fun vi wz => ∃ i : Nat, i ≤ 32 ∧ vi = .int .i64 i ∧ Hid (Blk wz g 55 (arrK .u8 (pfill f i) 32)) ∧ Hid (Blk wz (o + 1) 186 (stA S)) ∧ Hid (Blk wz o 55 (arrK .u8 (fun _ => 0) 32)) ∧ Hid (Up w wz)) (fun vi _ => 32 - (intOf vi).toNat)
      case atStart => exact ⟨0, by omega, rfl, hid (Blk.new hg (zero32.trans (pfill_zero _ _ _))), hid (HH.out.alloc _), hid (HZ.out.alloc _), hid (HU.out.alloc _)⟩
      case round =>
        clear HH HZ HU hg
        obtain ⟨i, hi, rfl, HG, HH, HZ, HU⟩ := hrel
        by_cases hil : i < 32
        · obtain ⟨a, ha⟩ : ∃ a, i / 4 = a := ⟨_, rfl⟩
          obtain ⟨r, hr⟩ : ∃ r, i % 4 = r := ⟨_, rfl⟩
          have hir : i = 4 * a + r := by omega
          have ha8 : a < 8 := by omega
          have hr4 : r < 4 := by omega
          have HFI : Hid (f i = S.get a / 2 ^ (24 - 8 * r) % 256) := hid (by rw [← HF.out, outB, ha, hr])
          have HGw := hid (pfill_put .u8 f i 32)
          have g1 := HG.out.val (pfill_at (k := .u8) (f := f) (i := i) (n := 32) hil)
          have g2 := HG.out.thawed i
          have HHx := HH.out
          rw [stA_arr] at HHx
          have q1 := HHx.val (arrK_get ha8)
          clear HHx
          have k1 : ((i : Int)).tdiv 4 = (a : Int) := by rw [Int.tdiv_eq_ediv_of_nonneg (by omega)]; omega
          have k2 : ((i : Int)).tmod 4 = (r : Int) := by rw [Int.tmod_eq_emod_of_nonneg (by omega)]; omega
          have k3 : (i : Int) / 4 = (a : Int) := by omega
          have k4 : (i : Int) % 4 = (r : Int) := by omega
          generalize S.get a = x at *
          clear ha hr hir
          go_wp2_with fail
          go_roundw
          case rel => exact ⟨i + 1, by omega, by go_num, hid (by rw [← HGw.out, HFI.out]; exact HG.out.wrote _ _), hid (HH.out.apart (by show o + 1 ≠ g; omega) _), hid (HZ.out.apart (by show o ≠ g; omega) _), hid (HU.out.setCell (by have := HOo.out; show w.heap.size ≤ g; omega) _)⟩
          case measure => simp [intOf]; omega
        · have HG2 := hid HG.out
          rw [show i = 32 by omega, pfill_all] at HG2
          clear HG
          have HSV : Hid (hashV (shaB xs) = .agg (arrK .u8 f 32)) := hid (by rw [hashV, HSha2.out])
          go_wp2_with (first | (refine wpList_load_row rfl 55 _ rfl g rfl 55 (arrK .u8 f 32) (0, 0) _ HG2.out Tryz.underlying55 rfl (by rw [arrK_size]; kernel_rfl) ?_) | (refine wpList_store_rowTo rfl 55 _ _ rfl rfl _ _ rfl rfl 55 _ HZ.out (by rw [arrK_size]; kernel_rfl) (by rw [arrK_size, arrK_size]) arrK_one ?_))
          refine bodyPost_ret (v := .agg (arrK .u8 f 32)) (results_cell_row rfl _ _ o 55 _ (0, 0) _ (by rfl) (HZ.out.row _) Tryz.underlying55 rfl (by rw [arrK_size]; kernel_rfl)) rfl ⟨by rw [HSV.out], HU.out.setRow (by have := HOo.out; omega) _⟩
end Go.Proofs.YtoaomjdpiealfaaGreatDoor
namespace Go.Proofs.YtoaomjdpiealfaaGreatDoor
open Go.RowKit Go.Sp
set_option maxHeartbeats 4000000
set_option maxRecDepth 20000

/-- Bytes and the first so many of a digest. -/
def joinTo (h : Nat → Int) (xs : List Int) (i : Nat) : List Int := xs ++ (List.range i).map h
theorem joinTo_length (h : Nat → Int) (xs : List Int) (i : Nat) : (joinTo h xs i).length = xs.length + i := by simp [joinTo]
theorem joinTo_succ (h : Nat → Int) (xs : List Int) (i : Nat) : joinTo h xs i ++ [h i] = joinTo h xs (i + 1) := by
  unfold joinTo
  rw [List.range_succ, List.map_append, List.append_assoc]
  rfl

theorem rHJoin_any (v : Value) (xs : List Int) (h : Nat → Int) (w : World) (hv : SeqAt .u8 w v xs) (hl : xs.length ≤ 1099511627000) :
    Calls Tryz.prog 168 #[v, hashV h] w fun e w' => ∃ v', e = .returned v' ∧ OwnS 5 .u8 w' (w.heap.size + 1) v' (xs ++ hList h) ∧ Up w w' := by
  have hget := fun i (hi : i < 32) => arrK_get (k := .u8) (f := h) hi
  have HEnd : Hid (joinTo h xs 32 = xs ++ hList h) := hid rfl
  have HLn := hid (joinTo_length h xs)
  have HSn := hid (joinTo_succ h xs)
  have HZero : Hid ([] ++ xs = joinTo h xs 0) := hid (by simp [joinTo])
  have HV := hid hv
  obtain ⟨n, hn⟩ : ∃ n, xs.length = n := ⟨_, rfl⟩
  obtain ⟨va, vc, rfl, _, _⟩ := hv.shape
  rw [hn] at HV hl HLn
  rw [hn]
  unfold hashV
  generalize arrK .u8 h 32 = cs at *
  have HG := hid hget
  have HXN := hid hn
  clear hget hv hn
  go_enter Tryz.func168, Tryz.ntmps168
  have HB0 := hid ((Blk.new (w := w) (t := 55) (cs := cs) rfl rfl).alloc (.cells #[] 5))
  have hs1 : (w.alloc (.cells cs 55)).heap.size = w.heap.size + 1 := by simp
  have hE := own_empty (e := 5) (k := .u8) (base := w.heap.size + 1) (Blk.new (w := w.alloc (.cells cs 55)) (t := 5) (cs := #[]) hs1 rfl) (Nat.le_refl _)
  have hu2 := ((Up.refl w).alloc (.cells cs 55)).alloc (.cells #[] 5)
  have HS1 := hid hs1
  have HE := hid hE
  have HU2 := hid hu2
  clear hs1 hE hu2
  go_wp2_with (at_builtin; refine wp_app infoU8 Tryz.underlying25 (by omega) rfl _ _ rfl (w.heap.size + 1) (v := .slice (some ⟨w.heap.size + 1, 0, none⟩) 0 0) rfl rfl HE.out (HV.out.up HU2.out) (by have := HXN.out; simp; omega) (by simp) ?_; intro v3 w3 hO3 hg3)
  have hU3 := HU2.out.own HE.out hg3 (by omega)
  have hB3 := HB0.out.below (below_own HE.out hg3 (by simp)) (by omega)
  rw [HZero.out] at hO3
  obtain ⟨p3, k3, rfl, _, _⟩ := hO3.shape
  rw [HLn.out 0, Nat.add_zero] at hO3
  rw [HLn.out 0, Nat.add_zero]
  obtain ⟨o, ho⟩ : ∃ o, w.heap.size = o := ⟨_, rfl⟩
  rw [ho] at hO3 hB3
  rw [ho]
  have HOo := hid ho
  have HO3 := hid hO3
  have HB3 := hid hB3
  have HU3 := hid hU3
  clear ho hO3 hB3 hU3 hg3 HE HU2 HS1 HB0
  go_wp2_with fail
  go_loopw [5, 6] (fun vp vi wr => ∃ (i : Nat) (p : Option Addr) (c : Nat), i ≤ 32 ∧ vi = .int .i64 i ∧ vp = .slice p (n + i) c ∧ Hid (OwnS 5 .u8 wr (o + 1) (.slice p (n + i) c) (joinTo h xs i)) ∧ Hid (Blk wr o 55 cs) ∧ Hid (Up w wr)) (fun _ vi _ => 32 - (intOf vi).toNat)
  case atStart => exact ⟨0, _, _, by omega, rfl, rfl, HO3, HB3, HU3⟩
  case round =>
    clear HO3 HB3 HU3
    obtain ⟨i, p, c, hi, rfl, rfl, HO, HB, HU⟩ := hrel
    by_cases hlt : i < 32
    · have q1 := HB.out.val (HG.out i hlt)
      have HS := hid (HSn.out i)
      have HLi := hid (HLn.out i)
      have HLi1 := hid (HLn.out (i + 1))
      have hbs : o + 1 ≤ wr.heap.size := by have := HB.out.lt; omega
      generalize h i = x at *
      obtain ⟨m, hm⟩ : ∃ m, n + i = m := ⟨_, rfl⟩
      have HM := hid hm
      rw [hm] at HO HLi
      rw [hm]
      have hmn : m ≤ n + 32 := by omega
      clear hm
      go_wp2_with (at_builtin; refine wp_app infoU8 Tryz.underlying25 (by omega) rfl _ _ rfl (o + 1) rfl rfl (HO.out.up ((Up.refl wr).alloc _)) (seq_new _ _ _) (by have := HLi.out; simp; omega) (by simp; omega) ?_; intro v' w' hO' hg')
      have hU' := (HU.out.alloc _).own (HO.out.up ((Up.refl wr).alloc _)) hg' (by have := HOo.out; omega)
      have hB' := (HB.out.alloc _).below (below_own (HO.out.up ((Up.refl wr).alloc _)) hg' (by simp; omega)) (by omega)
      rw [HS.out] at hO'
      obtain ⟨p', k', rfl, _, _⟩ := hO'.shape
      rw [HLi1.out] at hO'
      rw [HLi1.out]
      have HO' := hid hO'
      have HU' := hid hU'
      have HB' := hid hB'
      clear hO' hU' hB' hg' HO HU HB
      go_wp2_with fail
      go_roundw
      case rel => exact ⟨i + 1, p', k', by omega, by go_num, rfl, HO', HB', HU'⟩
      case measure => simp [intOf]; omega
    · have hi32 : i = 32 := by omega
      have HO2 := hid HO.out
      rw [hi32, HEnd.out] at HO2
      rw [hi32]
      clear hi32 HO hlt hi
      go_wp2_with fail
      go_ret
      exact ⟨_, rfl, by rw [HOo.out]; exact HO2.out, HU.out⟩

theorem rTagged_any (s : ByteArray) (v : Value) (xs : List Int) (w : World) (hs1 : s.size ≤ 100) (hv : SeqAt .u8 w v xs) (hl : xs.length ≤ 1099511626000) (hB : ∀ x ∈ xs, 0 ≤ x ∧ x ≤ 255) :
    Calls Tryz.prog 116 #[.string s, v] w fun e w' => e = .returned (hashV (tagB (txt s) xs)) ∧ Up w w' := by
  have HV := hid hv
  have HTx := hid (txt_byt s)
  have HTl := hid (txt_length s)
  obtain ⟨h, hh⟩ : ∃ h, shaB (txt s) = h := ⟨_, rfl⟩
  have Hhb : Hid (∀ i, 0 ≤ h i ∧ h i ≤ 255) := hid (by rw [← hh]; exact shaB_range _)
  have HR : Hid (tagB (txt s) xs = shaB (hList h ++ hList h ++ xs)) := hid (by rw [tagB, hh])
  obtain ⟨R, hR⟩ : ∃ R, tagB (txt s) xs = R := ⟨_, rfl⟩
  rw [hR] at HR
  rw [hR]
  have HS1 := hid (fun w' (v' : Value) (hv' : SeqAt .u8 w' v' (txt s)) => rSum_any v' (txt s) w' hv' (by rw [txt_length]; omega) HTx.out)
  rw [hh] at HS1
  have HS2 := hid (fun w' (v' : Value) (hv' : SeqAt .u8 w' v' (hList h ++ hList h ++ xs)) => rSum_any v' _ w' hv' (by simp [hList_length]; omega) (by
    intro x hx
    simp only [List.mem_append] at hx
    rcases hx with (hx | hx) | hx
    · exact hList_byt Hhb.out x hx
    · exact hList_byt Hhb.out x hx
    · exact hB x hx))
  rw [← HR.out] at HS2
  have hcv := fun w' => run_bytes_of_string (P := Tryz.prog) w' 9 25 5 s Tryz.underlying9 Tryz.underlying25 Tryz.underlying5
  obtain ⟨n, hn⟩ : ∃ n, xs.length = n := ⟨_, rfl⟩
  have HN := hid hn
  obtain ⟨va, vc, rfl, _, _⟩ := hv.shape
  rw [hn] at HV hl
  rw [hn]
  clear hv hh hR hn hB
  go_enter Tryz.func116, Tryz.ntmps116
  go_wp2_with fail
  refine (HS1.out _ _ (seq_text_at s _ _ _ (by simp) cap_ge (cap_le (by omega)))).mono ?_
  rintro e w1 ⟨rfl, hU1⟩
  have hZ1 : Blk w1 w.heap.size 55 (arrK .u8 (fun _ => 0) 32) := (((Blk.new rfl zero32).alloc _).up (Up.refl _).drew).up hU1
  have hU1 := (((Up.refl w).alloc _).alloc _).drew.trans hU1
  obtain ⟨o, ho⟩ : ∃ o, w.heap.size = o := ⟨_, rfl⟩
  have HOo := hid ho
  rw [ho] at hZ1
  rw [ho]
  have l1 := hZ1.lt
  clear hcv ho HS1
  unfold hashV
  go_wp2_with (first | (refine wpList_store_rowTo rfl 55 _ _ rfl rfl _ _ rfl rfl 55 _ (heap_alloc_new _ _) (by rw [arrK_size]; kernel_rfl) (by rw [arrK_size]; rfl) arrK_one ?_; rw [World.setRow_alloc_new]))
  obtain ⟨g, hg⟩ : ∃ g, w1.heap.size = g := ⟨_, rfl⟩
  rw [hg]
  obtain ⟨w2, hw2⟩ : ∃ w2, w1.alloc (.cells (arrK .u8 h 32) 55) = w2 := ⟨_, rfl⟩
  have hG2 : Blk w2 g 55 (arrK .u8 h 32) := by rw [← hw2]; exact Blk.new hg rfl
  have hZ2 : Blk w2 o 55 (arrK .u8 (fun _ => 0) 32) := by rw [← hw2]; exact hZ1.alloc _
  have hU2 : Up w w2 := by rw [← hw2]; exact hU1.alloc _
  rw [hg] at l1
  rw [hw2]
  have HG := hid hG2
  have HZ := hid hZ2
  have HU := hid hU2
  have hsz := hG2.lt
  clear hw2 hZ1 hU1 hG2 hZ2 hU2 hg
  have HLn := hid (hList_length h)
  have hud := (Up.refl w2).drew
  refine region_E (fun w' => Blk w' g 55 (arrK .u8 h 32)) 7 (by kernel_rfl) (HG.out.up hud) fun hS => ?_
  refine anyE_take (i := 4) (v := ?_) 13 rfl rfl (by kernel_rfl) (by kernel_rfl) (by decide) (fun _ _ _ h => h) (by kernel_rfl) (by kernel_rfl) (.inl ⟨by rfl, fun u hu => ?_⟩) hS ?_
  rotate_left
  · (go_simp; first | done | with_reducible rfl)
  simp only [Act.put, List.setIfInBounds_toArray, List.set_cons_succ]
  refine anyE_take (i := 0) (v := .agg (arrK .u8 h 32).toList.toArray) 9 rfl rfl (by kernel_rfl) (by kernel_rfl) (by decide) (fun _ _ _ h => h) (by kernel_rfl) (by kernel_rfl) (yieldsIf_load_mid (by rfl) 55 _ rfl g 0 rfl (arrK .u8 h 32).toList _ (fun u hu => blk_range hu) Tryz.underlying55 rfl (by rw [Array.length_toList, arrK_size]; kernel_rfl)) hS ?_
  rw [Array.toArray_toList]
  simp only [Act.put, List.setIfInBounds_toArray, List.set_cons_succ]
  refine anyE_take (i := 2) (v := .agg (arrK .u8 h 32).toList.toArray) 11 rfl rfl (by kernel_rfl) (by kernel_rfl) (by decide) (fun _ _ _ h => h) (by kernel_rfl) (by kernel_rfl) (yieldsIf_load_mid (by rfl) 55 _ rfl g 0 rfl (arrK .u8 h 32).toList _ (fun u hu => blk_range hu) Tryz.underlying55 rfl (by rw [Array.length_toList, arrK_size]; kernel_rfl)) hS ?_
  rw [Array.toArray_toList]
  simp only [Act.put, List.setIfInBounds_toArray, List.set_cons_succ]
  refine anyE_one (i := 1) rfl (by kernel_rfl) rfl (fun K hK => ?_)
  go_simp
  refine (rHJoin_any _ [] h _ seq_none (by simp)).mono ?_
  rintro e w3 ⟨v3, rfl, hO3, hU3⟩
  dsimp only
  have hD3 := hud.trans hU3
  have hS3 := Blk.up hS hU3
  refine hK.out _ _ (.inr hS3) ?_
  clear hK
  refine anyE_one (i := 3) rfl (by kernel_rfl) rfl (fun K hK => ?_)
  go_simp
  refine (rHJoin_any _ _ h _ hO3.seq (by have := HLn.out; simp; omega)).mono ?_
  rintro e w4 ⟨v4, rfl, hO4, hU4⟩
  dsimp only
  have hD4 := hD3.trans hU4
  have hS4 := Blk.up hS3 hU4
  have hO4 := hO4.mono (base' := w2.heap.size) (by have := hD3.size; omega)
  refine hK.out _ _ (.inr hS4) ?_
  clear hK
  refine anyE_one (i := 5) rfl (by kernel_rfl) rfl (fun K hK => ?_)
  refine op_app infoU8 Tryz.underlying25 (by omega) _ _ rfl w2.heap.size rfl rfl hO4 (HV.out.up (HU.out.trans hD4)) (by have := HLn.out; have := HN.out; simp; omega) hD4.size ?_
  intro v5 w5 hO5 hg5
  have hB5 := below_own hO4 hg5 hD4.size
  have hS5 := hS4.below hB5 hsz
  have hZ5 := (HZ.out.up hD4).below hB5 HZ.out.lt
  have hU5 := (HU.out.trans hD4).own hO4 hg5 HU.out.size
  simp only [Act.put, List.setIfInBounds_toArray]
  refine hK.out _ _ (.inr hS5) ?_
  clear hK
  refine anyE_one (i := 6) rfl (by kernel_rfl) rfl (fun K hK => ?_)
  go_simp
  refine (HS2.out _ _ hO5.seq).mono ?_
  rintro e w6 ⟨rfl, hu6⟩
  dsimp only
  have hZ6 := hZ5.up hu6
  have hU6 := hU5.trans hu6
  refine hK.out _ _ (.inr (Blk.up hS5 hu6)) ?_
  clear hK
  refine anyE_one (i := 7) rfl (by kernel_rfl) rfl (fun K hK => ?_)
  refine op_store_row 55 _ _ rfl rfl o (arrK .u8 R 32) rfl rfl 55 (arrK .u8 (fun _ => 0) 32) hZ6 (by rw [arrK_size]; kernel_rfl) (by rw [arrK_size, arrK_size]) arrK_one ?_
  refine hK.out _ _ (.inl rfl) (anyE_done (by kernel_rfl) ?_ _)
  clear hK
  go_wp2
  refine bodyPost_ret (v := .agg (arrK .u8 R 32)) (results_cell_row rfl _ _ o 55 _ (0, 0) _ (by rfl) (hZ6.row _) Tryz.underlying55 rfl (by rw [arrK_size]; kernel_rfl)) rfl ⟨rfl, hU6.setRow (by have := HOo.out; omega) _⟩

theorem rNumber_ok (h : Nat → Int) (m : Int) (w : World) (hB : Byt h) (m0 : 1 ≤ m) (m1 : m < 2305843009213693952) :
    Calls Tryz.prog 115 #[hashV h, .int .i64 m] w fun e w' => e = .returned (.int .i64 (numH h m)) ∧ Up w w' := by
  have hget := fun i (hi : i < 32) => arrK_get (k := .u8) (f := h) hi
  unfold hashV
  generalize arrK .u8 h 32 = cs at *
  have HG := hid hget
  have HB := hid hB
  have HN : Hid (numH h m = numB h m 16) := hid rfl
  clear hget hB
  have dm : (m == 0) = false := by simp; omega
  have dm2 : m ≠ 0 := by omega
  go_enter Tryz.func115, Tryz.ntmps115
  go_wp2_with fail
  have HB0 := hid (Blk.new (w := w) (t := 55) (cs := cs) rfl rfl)
  have HU0 := hid ((Up.refl w).alloc (.cells cs 55))
  obtain ⟨o, ho⟩ : ∃ o, w.heap.size = o := ⟨_, rfl⟩
  rw [ho] at HB0
  rw [ho]
  clear ho
  go_loopw [5, 6] (fun vx vi wr => ∃ i : Nat, i ≤ 16 ∧ vi = .int .i64 i ∧ vx = .int .i64 (numB h m i) ∧ Hid (Blk wr o 55 cs) ∧ Hid (Up w wr)) (fun _ vi _ => 16 - (intOf vi).toNat)
  case atStart => exact ⟨0, by omega, rfl, rfl, HB0, HU0⟩
  case round =>
    clear HB0 HU0
    obtain ⟨i, hi, rfl, rfl, HBk, HU⟩ := hrel
    by_cases hlt : i < 16
    · have q1 := cupF (HBk.out.val (HG.out i (by omega)))
      have r3 := HB.out i
      obtain ⟨x0, x1⟩ := numB_range (h := h) (m := m) (by omega) i
      have HS : Hid (numB h m (i + 1) = (numB h m i * 256 + h i) % m) := hid rfl
      generalize numB h m i = x at *
      generalize h i = c at *
      have hc0 := r3.1
      have hc1 := r3.2
      have di : decide ((i : Int) < 16) = true := by simp; omega
      have di2 : (i : Int) < 32 := by omega
      clear r3
      have htm : (256 : Int).tmod m = 256 % m := Int.tmod_eq_emod_of_nonneg (by omega)
      have e0 := Int.emod_nonneg 256 dm2
      have e1 := Int.emod_lt_of_pos 256 (show 0 < m by omega)
      have HR := hid (num_ref x c m)
      have p0 := Int.emod_nonneg (x * (256 % m)) dm2
      have p1 := Int.emod_lt_of_pos (x * (256 % m)) (show 0 < m by omega)
      have HM := hid (fun w' => (rMul_ok x (256 % m) m w' x0 x1 e0 e1 m1).mono fun e u h => (⟨h.1, by rw [← h.2]; exact Up.refl _⟩ : e = .returned (.int .i64 (x * (256 % m) % m)) ∧ Up w' u))
      have HD := hid (fun w' => (rReduce_ok (x * (256 % m) % m + c) m w' (by omega) (by omega) m0 m1).mono fun e u h => (⟨h.1, by rw [← h.2]; exact Up.refl _⟩ : e = .returned (.int .i64 ((x * (256 % m) % m + c) % m)) ∧ Up w' u))
      rw [HR.out] at HD
      generalize x * (256 % m) % m = z at *
      generalize 256 % m = y at *
      go_wp2_with fail
      refine wp_region_up (by kernel_rfl) (by kernel_rfl) ?_
      repeat (go_big_quiet_step ((first | (exact Calls.up_of (HM.out _)) | (exact Calls.up_of (HD.out _)))))
      refine wpQuiet_nil ?_
      rintro _ ⟨p, rfl⟩
      go_wp2_with fail
      go_roundw
      case rel => exact ⟨i + 1, by omega, by go_num, by rw [HS.out], hid (HBk.out.up p.up), hid (HU.out.trans p.up)⟩
      case measure => simp [intOf]; omega
    · obtain rfl : i = 16 := by omega
      go_wp2
      go_ret
      exact ⟨by rw [HN.out]; rfl, HU.out⟩
end Go.Proofs.YtoaomjdpiealfaaGreatDoor
namespace Go.Proofs.YtoaomjdpiealfaaGreatDoor
open Go.RowKit Go.Sp
set_option maxHeartbeats 4000000
set_option maxRecDepth 20000

/-- The last so many are filled. -/
def bfill (f : Nat → Int) (n s : Nat) : Nat → Int := fun j => if n ≤ j + s then f j else 0
theorem bfill_zero (k : IntKind) (f : Nat → Int) (n : Nat) : arrK k (fun _ => 0) n = arrK k (bfill f n 0) n := arrK_congr fun j hj => by
  rw [bfill, if_neg (by omega)]
theorem bfill_all (k : IntKind) (f : Nat → Int) (n : Nat) : arrK k (bfill f n n) n = arrK k f n := arrK_congr fun j _ => by
  rw [bfill, if_pos (by omega)]
theorem bfill_put (k : IntKind) (f : Nat → Int) (n s i : Nat) (hi : i + 1 + s = n) : (arrK k (bfill f n s) n).setIfInBounds i (.int k (f i)) = arrK k (bfill f n (s + 1)) n := by
  rw [arrK_set]
  refine arrK_congr fun t _ => ?_
  unfold bfill
  by_cases h : t = i
  · subst h
    rw [if_pos rfl, if_pos (by omega)]
  · have e1 : (n ≤ t + (s + 1)) ↔ (n ≤ t + s) := by omega
    simp [h, e1]
theorem bfill_at {k : IntKind} {f : Nat → Int} {n s i : Nat} (hi : i + 1 + s = n) : (arrK k (bfill f n s) n)[i]? = some (.int k 0) := by
  rw [arrK_get (by omega), bfill, if_neg (by omega)]

theorem div_256 (n : Int) (s : Nat) : n / 2 ^ (8 * s) / 256 = n / 2 ^ (8 * (s + 1)) := by
  rw [show 8 * (s + 1) = 8 * s + 8 by omega, Int.pow_add, ← Int.ediv_ediv_of_nonneg (Int.le_of_lt (Int.pow_pos (by decide)))]
  rfl

theorem renc_number (n : Int) (size : Nat) (w : World) (h0 : 0 ≤ n) (h1 : n ≤ 18446744073709551615) (hs1 : 1 ≤ size) (hs8 : size ≤ 8)
    (hmk : ∀ W, (Instr.makeSlice 25 (.int .i64 size) (.int .i64 size)).run Tryz.prog W = .ok (.slice (some ⟨W.heap.size, 0, none⟩) size size) (W.alloc (.cells (arrK .u8 (fun _ => 0) size) 5))) :
    Calls Tryz.prog 169 #[.int .u64 n, .int .i64 size] w fun e w' => ∃ v, e = .returned v ∧ OwnS 5 .u8 w' w.heap.size v (beL size n) ∧ Up w w' := by
  obtain ⟨f, hf⟩ : ∃ f : Nat → Int, (fun i => n / 2 ^ (8 * (size - 1 - i)) % 256) = f := ⟨_, rfl⟩
  have HL : Hid (beL size n = (List.range size).map f) := hid (by rw [← hf]; rfl)
  have HF := hid hf
  have HX : Hid (n / 2 ^ (8 * 0) = n) := hid (by simp)
  have HDiv := hid (div_256 n)
  have HNn : Hid (∀ s, 0 ≤ n / 2 ^ (8 * s) ∧ n / 2 ^ (8 * s) ≤ n) := hid fun s => ⟨Int.ediv_nonneg h0 (Int.le_of_lt (Int.pow_pos (by decide))), Int.ediv_le_self _ h0⟩
  clear hf
  go_enter Tryz.func169, Tryz.ntmps169
  go_wp2_with fail
  clear hmk
  obtain ⟨o, ho⟩ : ∃ o, w.heap.size = o := ⟨_, rfl⟩
  rw [ho]
  have hb0 : Blk (w.alloc (.cells (arrK .u8 (fun _ => 0) size) 5)) o 5 (arrK .u8 (bfill f size 0) size) := Blk.new ho (bfill_zero _ _ _)
  go_loopw [0, 6] (fun vn vi wr => ∃ s : Nat, s ≤ size ∧ vi = .int .i64 ((size : Int) - 1 - s) ∧ vn = .int .u64 (n / 2 ^ (8 * s)) ∧ Hid (Blk wr o 5 (arrK .u8 (bfill f size s) size)) ∧ Hid (Up w wr)) (fun _ vi _ => (intOf vi + 1).toNat)
  case atStart => exact ⟨0, by omega, by simp, by rw [HX.out], hid hb0, hid ((Up.refl w).alloc _)⟩
  case round =>
    have HOo := hid ho
    clear ho hb0
    obtain ⟨s, hs, rfl, rfl, HB, HU⟩ := hrel
    by_cases hlt : s < size
    · obtain ⟨i, hi⟩ : ∃ i : Nat, i + 1 + s = size := ⟨size - 1 - s, by omega⟩
      have q1 := HB.out.val (bfill_at hi)
      have q2 := HB.out.thawed i
      have HP := hid (bfill_put .u8 f size s i hi)
      have HFI : Hid (f i = n / 2 ^ (8 * s) % 256) := hid (by rw [← HF.out]; show n / 2 ^ (8 * (size - 1 - i)) % 256 = _; rw [show size - 1 - i = s by omega])
      have HD := hid (HDiv.out s)
      obtain ⟨n0, n1⟩ := HNn.out s
      rw [show (size : Int) - 1 - s = i by omega]
      generalize n / 2 ^ (8 * s) = x at *
      go_wp2_with fail
      go_roundw
      case rel => exact ⟨s + 1, by omega, congrArg (Value.int .i64) (by omega), by rw [← HD.out], hid (by rw [← HP.out, HFI.out]; exact HB.out.wrote _ _), hid (HU.out.setCell (by have := HOo.out; show w.heap.size ≤ o; omega) _)⟩
      case measure => simp [intOf]
    · have hss : s = size := by omega
      have HB2 := hid HB.out
      rw [hss, bfill_all] at HB2
      rw [show (size : Int) - 1 - s = -1 by omega]
      clear HB hss hlt hs
      go_wp2
      go_ret
      exact ⟨_, rfl, by rw [HL.out]; exact HB2.out.own (by have := HOo.out; omega) (by omega), HU.out⟩

theorem renc_four (n : Int) (w : World) (h0 : 0 ≤ n) (h1 : n ≤ 18446744073709551615) :
    Calls Tryz.prog 169 #[.int .u64 n, .int .i64 4] w fun e w' => ∃ v, e = .returned v ∧ OwnS 5 .u8 w' w.heap.size v (beL 4 n) ∧ Up w w' :=
  renc_number n 4 w h0 h1 (by omega) (by omega) fun _ => by kernel_rfl
theorem renc_eight (n : Int) (w : World) (h0 : 0 ≤ n) (h1 : n ≤ 18446744073709551615) :
    Calls Tryz.prog 169 #[.int .u64 n, .int .i64 8] w fun e w' => ∃ v, e = .returned v ∧ OwnS 5 .u8 w' w.heap.size v (beL 8 n) ∧ Up w w' :=
  renc_number n 8 w h0 h1 (by omega) (by omega) fun _ => by kernel_rfl
end Go.Proofs.YtoaomjdpiealfaaGreatDoor
