/- Restrictive signatures: which are right. The reference's SHA-256: numbers in bytes, the padded form, the constants. The reference's SHA-256: the words of a block. -/
import Derived.Test.YtdlcmpbpdbpanaaDoorMSignatureFits25
import Derived.Test.YtdlcmpbpdbpanaaDoorMSignatureFits12
import Derived.Test.YtdlcmpbpdbpanaaDoorMSignatureFits14
import Derived.Deep.RegionLaw
import Derived.IntWalk
namespace Go.Proofs.YtdlcmpbpdbpanaaDoor
open Go.RowKit Go.Sp
set_option maxHeartbeats 4000000
set_option maxRecDepth 20000

/-- A right signature. -/
def verB (P Q G A B C k1 k2 k3 p : Int) (root : Nat → Int) (z a b r : Int) : Bool :=
  kvB P Q G A B C k1 k2 k3 && (gnB P Q p && (exB Q r && ([z, a, b].all (elB P Q) && (coinC P Q G A B C p root z a b != 0 && cvE P G k1 p z a b (coinC P Q G A B C p root z a b) r))))

end Go.Proofs.YtdlcmpbpdbpanaaDoor
namespace Go.Proofs.YtdlcmpbpdbpanaaDoor
open Go.RowKit Go.Sp
set_option maxHeartbeats 2000000
set_option maxRecDepth 20000

theorem rbytes_any (n : Int) (w : World) (_h0 : 0 ≤ n) (_h1 : n ≤ 9223372036854775807) :
    Calls Tryd.prog 183 #[.int .i64 n] w fun e w' => ∃ v, e = .returned v ∧ OwnS 5 .u8 w' w.heap.size v (beL 8 n) ∧ Up w w' := by
  have HT := hid (beL_take n)
  have HL := hid (beL_length 8 n)
  obtain ⟨S, hS⟩ : ∃ S, beL 8 n = S := ⟨_, rfl⟩
  rw [hS] at HT HL
  rw [hS]
  clear hS
  obtain ⟨o, ho⟩ : ∃ o, w.heap.size = o := ⟨_, rfl⟩
  have HOo := hid ho
  clear ho
  have HLen : Hid (∀ k, k ≤ 8 → (S.take k).length = k) := hid (fun k hk => by rw [List.length_take, HL.out]; omega)
  go_enter Tryd.func183, Tryd.ntmps183
  go_wp2_with fail
  go_loopw [3, 4] (fun vp vi wr => ∃ (k : Nat) (p : Option Addr) (cp : Nat) (j : Int), k ≤ 8 ∧ vi = .int .i64 j ∧ vp = .slice p k cp ∧ -1 ≤ j ∧ j ≤ 7 ∧ Hid (j = 7 - (k : Int)) ∧ Hid (OwnS 5 .u8 wr o (.slice p k cp) (S.take k)) ∧ Hid (Up w wr)) (fun _ vi _ => (intOf vi + 1).toNat)
  case atStart => exact ⟨0, none, 0, 7, by omega, rfl, rfl, by omega, by omega, hid rfl, hid own_none, hid (Up.refl w)⟩
  case round =>
    obtain ⟨k, p, cp, j, hk, rfl, rfl, j0, j1, HJ, HO, HU⟩ := hrel
    by_cases hlt : k < 8
    · have hj := HJ.out
      have hj0 : 0 ≤ j := by omega
      have d0 : decide (j ≥ 0) = true := by simpa using hj0
      have hj8 : (0 : Int) ≤ 8 * j := by omega
      have HE : Hid ((8 * j).toNat = 56 - 8 * k) := hid (by omega)
      have HTk : Hid (S.take k ++ [n / 2 ^ (8 * j).toNat % 256] = S.take (k + 1)) := hid (by rw [HT.out k hlt, HE.out])
      have HLk := hid (HLen.out k (by omega))
      have HLk1 := hid (HLen.out (k + 1) (by omega))
      have hbs : o ≤ wr.heap.size := by have := HU.out.size; have := HOo.out; omega
      have HJ2 : Hid (j - 1 = 7 - ((k + 1 : Nat) : Int)) := hid (by omega)
      clear hj
      go_wp2_with (at_builtin; refine wp_app infoU8 Tryd.underlying31 (by omega) rfl _ _ rfl o rfl rfl (HO.out.up ((Up.refl wr).alloc _)) (seq_new _ _ _) (by have := HLk.out; simp; omega) (by simp; omega) ?_; intro v' w' hO' hg')
      have hU' := (HU.out.alloc _).own (HO.out.up ((Up.refl wr).alloc _)) hg' (by have := HOo.out; omega)
      rw [HTk.out] at hO'
      obtain ⟨p', k', rfl, _, _⟩ := hO'.shape
      rw [HLk1.out] at hO'
      rw [HLk1.out]
      have HO' := hid hO'
      have HU' := hid hU'
      clear hO' hU' hg' HO HU
      go_wp2_with fail
      go_roundw
      case rel => exact ⟨k + 1, p', k', j - 1, by omega, rfl, rfl, by omega, by omega, HJ2, HO', HU'⟩
      case measure => simp [intOf]; omega
    · obtain rfl : k = 8 := by omega
      have d0 : decide (j ≥ 0) = false := by have := HJ.out; simp; omega
      have HE : Hid (S.take 8 = S) := hid (List.take_of_length_le (by rw [HL.out]; omega))
      go_wp2
      go_ret
      exact ⟨_, rfl, by rw [HOo.out, ← HE.out]; exact HO.out, HU.out⟩

theorem rconst_any (g : Nat) (w : World) (hg : w.heap.size = g) :
    Calls Tryd.prog 155 #[] w fun e w' => e = .returned (.slice (some ⟨g, 0, none⟩) 64 64) ∧ Blk w' g 122 (arrK .u32 (fun i => shaK.getD i 0) 64) ∧ Up w w' := by
  subst hg
  go_enter Tryd.func155, Tryd.ntmps155
  go_wp2
  go_ret
  exact ⟨rfl, Blk.new rfl (by kernel_rfl), (Up.refl w).alloc _⟩

theorem rpadded_any (v : Value) (xs : List Int) (w : World) (hv : SeqAt .u8 w v xs) (hl : xs.length ≤ 1099511627000) :
    Calls Tryd.prog 156 #[v] w fun e w' => ∃ v', e = .returned v' ∧ OwnS 5 .u8 w' w.heap.size v' (padL xs) ∧ Up w w' := by
  have HV := hid hv
  obtain ⟨a0, cap, rfl, hcap1, hcap2⟩ := hv.shape
  obtain ⟨n, hn⟩ : ∃ n, xs.length = n := ⟨_, rfl⟩
  obtain ⟨Z, hZ⟩ : ∃ Z, padZ n = Z := ⟨_, rfl⟩
  have HP : Hid (padL xs = padTo xs Z ++ beL 8 (8 * n)) := hid (by rw [padL_eq, hn, hZ])
  have hZ2 : ((n + 1 + Z) % 64 = 56 ∧ Z ≤ 63) ∧ ∀ z, z < Z → (n + 1 + z) % 64 ≠ 56 := by
    rw [← hZ]
    unfold padZ
    refine ⟨⟨by omega, by omega⟩, fun z hz => by omega⟩
  have HZ := hid hZ2
  have HLt := hid (fun z => padTo_length xs z)
  rw [hn] at HLt
  have HStep := hid (padTo_step xs)
  have HZero : Hid (xs ++ [128] = padTo xs 0) := hid (by simp [padTo])
  have HXN := hid hn
  rw [hn] at hl hcap1 HV
  rw [hn]
  obtain ⟨o, ho⟩ : ∃ o, w.heap.size = o := ⟨_, rfl⟩
  have HOo := hid ho
  have HBy := hid (fun w' => rbytes_any (8 * n) w' (by omega) (by omega))
  clear hv hn hZ hZ2 ho
  go_enter Tryd.func156, Tryd.ntmps156
  go_wp2_with (first
    | (at_builtin; refine wp_app infoU8 Tryd.underlying31 (by omega) rfl _ _ rfl w.heap.size (v := .slice (some ⟨w.heap.size, 0, none⟩) 0 0) rfl rfl (own_empty (Blk.new rfl rfl) (Nat.le_refl _)) (HV.out.up ((Up.refl w).alloc _)) (by have := HXN.out; simp; omega) (by simp) ?_; intro v1 w1 hO1 hg1; have hU1 := Up.own ((Up.refl w).alloc _) (own_empty (e := 5) (k := .u8) (Blk.new rfl rfl) (Nat.le_refl _)) hg1 (Nat.le_refl _); have hs1 := hU1.size)
    | (at_builtin; refine wp_app infoU8 Tryd.underlying31 (by omega) rfl _ _ rfl w.heap.size rfl rfl (hO1.up ((Up.refl w1).alloc _)) (seq_new _ _ _) (by have := HXN.out; simp; omega) (by simp; omega) ?_; intro v2 w2 hO2 hg2; have hU2 := (hU1.alloc _).own (hO1.up ((Up.refl w1).alloc _)) hg2 (Nat.le_refl _)))
  rw [List.nil_append, HZero.out] at hO2
  obtain ⟨p2, k2, rfl, _, _⟩ := hO2.shape
  have HLt0 : (padTo xs 0).length = n + 1 := HLt.out 0
  rw [HLt0] at hO2
  rw [HLt0]
  rw [HOo.out] at hO2
  clear HLt0
  have HO2 := hid hO2
  have HU2 := hid hU2
  clear hO1 hO2 hU1 hU2 hg1 hg2 hs1
  go_wp2_with fail
  go_loopw [3] (fun vp wr => ∃ (z : Nat) (p : Option Addr) (c : Nat), z ≤ Z ∧ vp = .slice p (n + 1 + z) c ∧ Hid (OwnS 5 .u8 wr o (.slice p (n + 1 + z) c) (padTo xs z)) ∧ Hid (Up w wr)) (fun vp _ => n + 1 + Z - lenOf vp)
  case atStart => exact ⟨0, _, _, by omega, rfl, HO2, HU2⟩
  case round =>
    clear HO2 HU2
    obtain ⟨z, p, c, hz, rfl, HO, HU⟩ := hrel
    have hsz : o ≤ wr.heap.size := by have := HU.out.size; have := HOo.out; omega
    by_cases hlt : z < Z
    · have HL := hid (HLt.out z)
      have HS := hid (HStep.out z)
      have HS1 := hid (HLt.out (z + 1))
      have hne := HZ.out.2 z hlt
      have hm : n + 1 + z ≤ n + 70 := by have := HZ.out.1.2; omega
      obtain ⟨m, hme⟩ : ∃ m, n + 1 + z = m := ⟨_, rfl⟩
      have HM := hid hme
      rw [hme] at HO HL hne hm
      rw [hme]
      clear hme
      have d1 : ((m : Int) % 64 != 56) = true := by simp; omega
      go_wp2_with (at_builtin; refine wp_app infoU8 Tryd.underlying31 (by omega) rfl _ _ rfl o rfl rfl (HO.out.up ((Up.refl wr).alloc _)) (seq_new _ _ _) (by have := HL.out; simp; omega) (by simp; omega) ?_; intro v' w' hO' hg')
      have hU' := (HU.out.alloc _).own (HO.out.up ((Up.refl wr).alloc _)) hg' (by have := HOo.out; omega)
      rw [HS.out] at hO'
      obtain ⟨p', k', rfl, _, _⟩ := hO'.shape
      rw [HS1.out] at hO'
      rw [HS1.out]
      have HO' := hid hO'
      have HU' := hid hU'
      clear hO' hU' hg'
      go_wp2_with fail
      go_roundw
      case rel => exact ⟨z + 1, _, _, by omega, rfl, HO', HU'⟩
      case measure =>
        have := HM.out
        simp
        omega
    · have hzZ : z = Z := by omega
      have HzZ := hid hzZ
      have HL := hid (HLt.out z)
      have d1 : (((n + 1 + z : Nat) : Int) % 64 != 56) = false := by
        have := HZ.out.1.1
        rw [← hzZ] at this
        simp
        omega
      have hm : n + 1 + z ≤ n + 70 := by have := HZ.out.1.2; omega
      clear hzZ
      obtain ⟨m, hme⟩ : ∃ m, n + 1 + z = m := ⟨_, rfl⟩
      have HM := hid hme
      rw [hme] at HO HL hm d1
      rw [hme]
      clear hme hlt hz
      go_wp2_with fail
      refine (HBy.out _).mono ?_
      rintro e w4 ⟨v4, rfl, hO4, hU4⟩
      have hsz4 := hU4.size
      have HPP : Hid (padTo xs z ++ beL 8 (8 * (n : Int)) = padL xs) := hid (by rw [HzZ.out, HP.out])
      go_wp2_with (at_builtin; refine wp_app infoU8 Tryd.underlying31 (by omega) rfl _ _ rfl o rfl rfl (HO.out.up hU4) hO4.seq (by have := HL.out; simp [beL_length]; omega) (by omega) ?_; intro v5 w5 hO5 hg5)
      have hU5 := (HU.out.trans hU4).own (HO.out.up hU4) hg5 (by have := HOo.out; omega)
      rw [HPP.out] at hO5
      go_ret
      exact ⟨_, rfl, by rw [HOo.out]; exact hO5, hU5⟩
end Go.Proofs.YtdlcmpbpdbpanaaDoor
namespace Go.Proofs.YtdlcmpbpdbpanaaDoor
open Go.RowKit Go.Sp
set_option maxHeartbeats 4000000
set_option maxRecDepth 20000

theorem infoU32 : (Tryd.prog.info? 122).map (fun i => (i.zero, i.size, i.bytes)) = some (some (.int .u32 0), 1, 4) := by kernel_rfl

theorem own_there {e : TypeId} {k : IntKind} {w : World} {base : Nat} {v : Value} {xs : List Int} (h : OwnS e k w base v xs) (hne : xs ≠ []) :
    ∃ g cap, v = .slice (some ⟨g, 0, none⟩) xs.length cap ∧ g < w.heap.size ∧ xs.length ≤ cap ∧ cap ≤ 9223372036854775807 ∧ ∀ i, i < xs.length → w.cell? ⟨g, i, none⟩ = some (.int k (xs.getD i 0)) := by
  have hc := h
  rcases h.2 with ⟨hv, hn⟩ | ⟨g, cap, cur, rfl, hb, hg, hn, hm, hs, ht⟩
  · exact absurd (List.length_eq_zero_iff.1 hn) hne
  · refine ⟨g, cap, rfl, (Array.getElem?_eq_some_iff.1 hg).1, hn, by unfold maxLen at hm; omega, fun i hi => ?_⟩
    rw [World.ownsRow.cellAt hc i (by omega)]
    simp [hi]

theorem cup {w w' : World} {b o : Nat} {v : Value} (hU : Up w w') (h : w.cell? ⟨b, o, none⟩ = some v) : w'.cell? ⟨b, o, none⟩ = some v := by rw [hU.cell (cell_in h)]; exact h

/-- The first n words. -/
def wL (b : Nat → Int) (n : Nat) : List Int := (List.range n).map (wAt b)
theorem wL_length (b : Nat → Int) (n : Nat) : (wL b n).length = n := by simp [wL]
theorem wL_succ (b : Nat → Int) (n : Nat) : wL b (n + 1) = wL b n ++ [wAt b n] := by
  unfold wL
  rw [List.range_succ, List.map_append]
  rfl
theorem wL_get {b : Nat → Int} {n i : Nat} (hi : i < n) : (wL b n).getD i 0 = wAt b i := by
  unfold wL
  simp [hi]

theorem rwords_any (v : Value) (xs : List Int) (w : World) (hv : SeqAt .u8 w v xs) (hl : xs.length = 64) (hB : Byt fun j => xs.getD j 0) :
    Calls Tryd.prog 157 #[v] w fun e w' => ∃ v', e = .returned v' ∧ OwnS 122 .u32 w' w.heap.size v' (wL (fun j => xs.getD j 0) 64) ∧ Up w w' := by
  have HV := hid hv
  obtain ⟨b0, o0, c0, rfl, _⟩ := hv.cell (i := 0) (by omega)
  obtain ⟨_, cap, hshape, hcap1, hcap2⟩ := hv.shape
  simp only [Value.slice.injEq] at hshape
  obtain ⟨-, -, rfl⟩ := hshape
  rw [hl] at hcap1 HV
  rw [hl]
  have HL := hid hl
  obtain ⟨b, hb⟩ : ∃ b : Nat → Int, (fun j => xs.getD j 0) = b := ⟨_, rfl⟩
  rw [hb]
  rw [hb] at hB
  have Hb := hid hb
  have HB := hid hB
  obtain ⟨o, ho⟩ : ∃ o, w.heap.size = o := ⟨_, rfl⟩
  have HOo := hid ho
  have HLn := hid (wL_length b)
  have HSn := hid (wL_succ b)
  clear hv hl hb hB ho
  go_enter Tryd.func157, Tryd.ntmps157
  go_wp2_with fail
  go_loopw [3, 4] (fun vp vi wr => ∃ (i : Nat) (p : Option Addr) (cp : Nat), i ≤ 16 ∧ vi = .int .i64 i ∧ vp = .slice p i cp ∧ Hid (OwnS 122 .u32 wr o (.slice p i cp) (wL b i)) ∧ Hid (Up w wr)) (fun _ vi _ => 16 - (intOf vi).toNat)
  case atStart => exact ⟨0, none, 0, by omega, rfl, rfl, hid own_none, hid (Up.refl w)⟩
  case round =>
    obtain ⟨i, p, cp, hi, rfl, rfl, HO, HU⟩ := hrel
    by_cases hlt : i < 16
    · go_wp2_with fail
      go_loop [5, 6] (fun vx vk => ∃ k : Nat, k ≤ 4 ∧ vk = .int .i64 k ∧ vx = .int .u32 (wordTo b i k)) (fun _ vk => 4 - (intOf vk).toNat)
      case atStart => exact ⟨0, by omega, rfl, rfl⟩
      case round =>
        obtain ⟨k, hk, rfl, rfl⟩ := hrel
        by_cases hkl : k < 4
        · obtain ⟨b1, o1, c1, hsh, hx⟩ := (HV.out.up HU.out).cell (i := 4 * i + k) (by rw [HL.out]; omega)
          simp only [Value.slice.injEq, Option.some.injEq, Addr.mk.injEq] at hsh
          obtain ⟨⟨rfl, rfl, -⟩, -, -⟩ := hsh
          rw [show xs.getD (4 * i + k) 0 = b (4 * i + k) from congrFun Hb.out _] at hx
          have HS : Hid (wordTo b i (k + 1) = wordTo b i k * 256 + b (4 * i + k)) := hid rfl
          have r1 := wordTo_range HB.out i k
          have r2 : (256 : Int) ^ k ≤ 16777216 := by
            have : k = 0 ∨ k = 1 ∨ k = 2 ∨ k = 3 := by omega
            rcases this with rfl | rfl | rfl | rfl <;> decide
          have r3 := HB.out (4 * i + k)
          generalize wordTo b i k = x at *
          generalize b (4 * i + k) = c at *
          have x0 := r1.1
          have x1 : x < 16777216 := by omega
          have c0' := r3.1
          have c1' := r3.2
          clear r1 r2 r3
          go_wp2_with fail
          go_round
          case rel => exact ⟨k + 1, by omega, by go_num, by rw [HS.out]⟩
          case measure => simp [intOf]; omega
        · obtain rfl : k = 4 := by omega
          have hw := wordTo_four b i
          have HW : Hid (wL b i ++ [wordTo b i 4] = wL b (i + 1)) := hid (by rw [HSn.out, hw, wAt_low hlt])
          have HLi := hid (HLn.out i)
          have HLi1 := hid (HLn.out (i + 1))
          have hbs : o ≤ wr.heap.size := by have := HU.out.size; have := HOo.out; omega
          clear hw
          generalize wordTo b i 4 = x at *
          go_wp2_with (at_builtin; refine wp_app infoU32 Tryd.underlying198 (by omega) rfl _ _ rfl o rfl rfl (HO.out.up ((Up.refl wr).alloc _)) (seq_new _ _ _) (by have := HLi.out; simp; omega) (by simp; omega) ?_; intro v' w' hO' hg')
          have hU' := (HU.out.alloc _).own (HO.out.up ((Up.refl wr).alloc _)) hg' (by have := HOo.out; omega)
          rw [HW.out] at hO'
          obtain ⟨p', k', rfl, _, _⟩ := hO'.shape
          rw [HLi1.out] at hO'
          rw [HLi1.out]
          have HO' := hid hO'
          have HU' := hid hU'
          clear hO' hU' hg' HO HU
          go_wp2_with fail
          go_roundw
          case rel => exact ⟨i + 1, p', k', by omega, by go_num, rfl, HO', HU'⟩
          case measure => simp [intOf]; omega
    · have hi16 : i = 16 := by omega
      have HI16 := hid hi16
      have d16 : decide ((i : Int) < 16) = false := by simp; omega
      clear hi16
      go_wp2_with fail
      go_loopw [3, 7] (fun vp vt wr => ∃ (t : Nat) (p : Option Addr) (cp : Nat), 16 ≤ t ∧ t ≤ 64 ∧ vt = .int .i64 t ∧ vp = .slice p t cp ∧ Hid (OwnS 122 .u32 wr o (.slice p t cp) (wL b t)) ∧ Hid (Up w wr)) (fun _ vt _ => 64 - (intOf vt).toNat)
      case atStart => exact ⟨16, p, cp, by omega, by omega, rfl, by rw [HI16.out], by rw [← HI16.out]; exact HO, HU⟩
      case round =>
        clear HO HU
        obtain ⟨t, p, cp, ht0, ht, rfl, rfl, HO, HU⟩ := hrel
        by_cases htl : t < 64
        · obtain ⟨g, cp', hsh, hg, hc1, hc2, hcell⟩ := own_there HO.out (by intro h; have := HLn.out t; rw [h] at this; simp at this; omega)
          rw [HLn.out] at hsh hc1 hcell
          simp only [Value.slice.injEq] at hsh
          obtain ⟨rfl, -, rfl⟩ := hsh
          have q1 := hcell (t - 15) (by omega)
          have q2 := hcell (t - 2) (by omega)
          have q3 := hcell (t - 16) (by omega)
          have q4 := hcell (t - 7) (by omega)
          rw [wL_get (by omega)] at q1 q2 q3 q4
          have HW := hid (HSn.out t)
          have HE := hid (wAt_high (b := b) ht0)
          have HLi := hid (HLn.out t)
          have HLi1 := hid (HLn.out (t + 1))
          have hbs : o ≤ wr.heap.size := by have := HU.out.size; have := HOo.out; omega
          have z1 : (16 : Int) ≤ t := by omega
          have z2 : (t : Int) < 64 := by omega
          clear hcell
          generalize wAt b (t - 15) = x at *
          generalize wAt b (t - 2) = y at *
          generalize wAt b (t - 16) = p at *
          generalize wAt b (t - 7) = q at *
          have Q3 := hid q3
          have Q4 := hid q4
          clear q3 q4
          go_wp2_with fail
          go_quiet (fail)
          have hud := (Up.refl wr).drewN nq
          have HUr := hid hud
          clear hud q1 q2
          generalize wr.drewN nq = w3 at *
          go_wp2_with (go_at_call 158; first | ((with_reducible (show Calls _ _ #[_, .int .i64 7] _ _)); refine (rright_7 _ _).mono ?_; rintro e w' ⟨rfl, hU'⟩; have HUr := hid (HUr.out.trans hU'); clear hU') | ((with_reducible (show Calls _ _ #[_, .int .i64 18] _ _)); refine (rright_18 _ _).mono ?_; rintro e w' ⟨rfl, hU'⟩; have HUr := hid (HUr.out.trans hU'); clear hU') | ((with_reducible (show Calls _ _ #[_, .int .i64 17] _ _)); refine (rright_17 _ _).mono ?_; rintro e w' ⟨rfl, hU'⟩; have HUr := hid (HUr.out.trans hU'); clear hU') | ((with_reducible (show Calls _ _ #[_, .int .i64 19] _ _)); refine (rright_19 _ _).mono ?_; rintro e w' ⟨rfl, hU'⟩; have HUr := hid (HUr.out.trans hU'); clear hU'))
          obtain ⟨s0, hs0⟩ : ∃ s0, sg0 x = s0 := ⟨_, rfl⟩
          obtain ⟨s1, hs1⟩ : ∃ s1, sg1 y = s1 := ⟨_, rfl⟩
          rw [show bits BinOp.xor IntKind.u32 (bits BinOp.xor IntKind.u32 (rotr x 7) (rotr x 18)) (x / 8) = s0 from hs0]
          rw [show bits BinOp.xor IntKind.u32 (bits BinOp.xor IntKind.u32 (rotr y 17) (rotr y 19)) (y / 1024) = s1 from hs1]
          rw [hs0, hs1] at HE
          have HW2 : Hid (wL b t ++ [IntKind.u32.wrap (IntKind.u32.wrap (IntKind.u32.wrap (p + s0) + q) + s1)] = wL b (t + 1)) := hid (by rw [HW.out, HE.out]; rfl)
          have q3 := cup HUr.out Q3.out
          have q4 := cup HUr.out Q4.out
          have HO4 := hid (HO.out.up HUr.out)
          have HU4 := hid (HU.out.trans HUr.out)
          have hg4 : g < w'.heap.size := by have := HUr.out.size; omega
          have hb4 : o ≤ w'.heap.size := by have := HUr.out.size; omega
          clear hs0 hs1 HE HW HUr HO HU Q3 Q4 hg hbs
          have e16 : IntKind.i64.wrap ((t : Int) - 16) = (t : Int) - 16 := IntWalk.i64_in _ (by omega)
          have e7 : IntKind.i64.wrap ((t : Int) - 7) = (t : Int) - 7 := IntWalk.i64_in _ (by omega)
          have f16 : ((t : Int) - 16).toNat = t - 16 := by omega
          have f7 : ((t : Int) - 7).toNat = t - 7 := by omega
          have g16 : (t : Int) - 16 < t := by omega
          have g7 : (t : Int) - 7 < t := by omega
          have h7 : (7 : Int) ≤ t := by omega
          go_region_law ((refine step_app infoU32 Tryd.underlying198 (by omega) (by rfl) _ _ (by rfl) o (by rfl) (by rfl) (HO4.out.up ((Up.refl _).drew.alloc _)) (seq_new_at (by simp)) (by have := HLi.out; simp; omega) (by simp; omega) ?_; intro v5 w5 hO5 hg5))
          all_goals (
            have hU5 := Up.own (HU4.out.trans ((Up.refl w').drew.alloc _)) (HO4.out.up ((Up.refl w').drew.alloc _)) hg5 (by have := HOo.out; omega)
            rw [HW2.out] at hO5
            obtain ⟨p5, k5, rfl, _, _⟩ := hO5.shape
            rw [HLi1.out] at hO5
            rw [HLi1.out]
            have HO5 := hid hO5
            have HU5 := hid hU5
            clear hO5 hU5 hg5 HO4 HU4 e16 e7 f16 f7 g16 g7 h7 q3 q4
            go_wp2_with fail
            go_roundw
            case rel => exact ⟨t + 1, p5, k5, by omega, by omega, by go_num, rfl, HO5, HU5⟩
            case measure => simp [intOf]; omega)
        · obtain rfl : t = 64 := by omega
          go_wp2
          go_ret
          exact ⟨_, rfl, by rw [HOo.out]; exact HO.out, HU.out⟩
end Go.Proofs.YtdlcmpbpdbpanaaDoor
