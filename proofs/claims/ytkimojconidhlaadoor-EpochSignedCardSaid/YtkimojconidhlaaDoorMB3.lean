/- Package digest: Sum. Appends, whole-array stores, and texts as bytes: at an operation, and at a step of a region that draws its order. Over any program. Package digest: Tagged. Encodings of items, transcripts, challenges: plain lists of bytes. No program in sight. Items in memory, and their encodings. Over any program. -/
import Derived.Test.YtkimojconidhlaaDoorMB2
import Derived.Test.YtkimojconidhlaaDoorMB1
import Derived.StillTailTactics
import Derived.Laws.IdiomStrings
import Derived.Great.BuildSlice
import Derived.RegionTactic
import Derived.Deep.MidRow
import Derived.Laws.ResultCell
import Derived.Deep.RegionHeld3
namespace Go.Proofs.YtkimojconidhlaaDoor
open Go.RowKit Go.Sp
set_option maxHeartbeats 2000000
set_option maxRecDepth 20000

/-- A digest as a value. -/
def hashV (h : Nat → Int) : Value := .agg (arrK .u8 h 32)

theorem zero32 : #[.int .u8 0, .int .u8 0, .int .u8 0, .int .u8 0, .int .u8 0, .int .u8 0, .int .u8 0, .int .u8 0, .int .u8 0, .int .u8 0, .int .u8 0, .int .u8 0, .int .u8 0, .int .u8 0, .int .u8 0, .int .u8 0,
    .int .u8 0, .int .u8 0, .int .u8 0, .int .u8 0, .int .u8 0, .int .u8 0, .int .u8 0, .int .u8 0, .int .u8 0, .int .u8 0, .int .u8 0, .int .u8 0, .int .u8 0, .int .u8 0, .int .u8 0, .int .u8 0] = arrK .u8 (fun _ => 0) 32 := by kernel_rfl

theorem stA_size (s : St) : (stA s).size = 8 := rfl
theorem stA_one {s : St} : (stA s).all (·.oneCell') = true := by rw [stA_arr]; exact arrK_one

/-- How many zeros pad so many bytes. -/
def padZ (n : Nat) : Nat := (119 - n % 64) % 64

def padTo (xs : List Int) (z : Nat) : List Int := xs ++ [128] ++ List.replicate z 0

theorem padTo_length (xs : List Int) (z : Nat) : (padTo xs z).length = xs.length + 1 + z := by simp [padTo]; omega
theorem padTo_step (xs : List Int) (z : Nat) : padTo xs z ++ [0] = padTo xs (z + 1) := by
  unfold padTo
  rw [List.append_assoc, List.replicate_succ', List.append_assoc]
theorem padL_eq (xs : List Int) : padL xs = padTo xs (padZ xs.length) ++ beL 8 (8 * xs.length) := rfl

theorem byt_getD {p : List Int} (h : ∀ x ∈ p, 0 ≤ x ∧ x ≤ 255) (i : Nat) : 0 ≤ p.getD i 0 ∧ p.getD i 0 ≤ 255 := by
  by_cases hi : i < p.length
  · rw [List.getD_eq_getElem?_getD, List.getElem?_eq_getElem hi]
    exact h _ (List.getElem_mem hi)
  · rw [List.getD_eq_getElem?_getD, List.getElem?_eq_none (by omega)]
    simp

theorem beL_byt (n : Nat) (x : Int) : ∀ y ∈ beL n x, 0 ≤ y ∧ y ≤ 255 := by
  intro y hy
  simp only [beL, List.mem_map] at hy
  obtain ⟨i, _, rfl⟩ := hy
  have := Int.emod_lt_of_pos (x / 2 ^ (8 * (n - 1 - i))) (show (0 : Int) < 256 by decide)
  exact ⟨Int.emod_nonneg _ (by decide), by omega⟩

theorem padL_byt {xs : List Int} (h : ∀ x ∈ xs, 0 ≤ x ∧ x ≤ 255) : ∀ x ∈ padL xs, 0 ≤ x ∧ x ≤ 255 := by
  intro x hx
  simp only [padL, List.mem_append, List.mem_singleton, List.mem_replicate] at hx
  rcases hx with ((hx | rfl) | ⟨_, rfl⟩) | hx
  · exact h x hx
  · omega
  · omega
  · exact beL_byt _ _ x hx

theorem blk_byt {p : List Int} (h : ∀ x ∈ p, 0 ≤ x ∧ x ≤ 255) (k : Nat) : Byt (blkAt p k) := fun _ => byt_getD h _

theorem drop_blk (p : List Int) (k : Nat) (h : 64 * k + 64 ≤ p.length) : (((p.drop (64 * k)).drop 0).take (64 - 0)).length = 64 ∧ (fun j => (((p.drop (64 * k)).drop 0).take (64 - 0)).getD j 0) = fun j => if j < 64 then blkAt p k j else 0 := by
  constructor
  · simp; omega
  · funext j
    by_cases hj : j < 64
    · rw [if_pos hj]
      simp [blkAt, List.getD_eq_getElem?_getD, hj]
    · rw [if_neg hj, List.getD_eq_getElem?_getD, List.getElem?_eq_none (by simp; omega)]
      rfl

/-- Only the first 64 bytes of a block count. -/
theorem wAt_cut {b c : Nat → Int} (h : ∀ j, j < 64 → b j = c j) : ∀ t, wAt b t = wAt c t := by
  intro t
  induction t using Nat.strongRecOn with
  | ind t ih =>
    by_cases ht : t < 16
    · rw [wAt_low ht, wAt_low ht, wordB, wordB, h _ (by omega), h _ (by omega), h _ (by omega), h _ (by omega)]
    · rw [wAt_high (b := b) (t := t) (by omega), wAt_high (b := c) (t := t) (by omega), ih _ (by omega), ih _ (by omega), ih _ (by omega), ih _ (by omega)]
theorem rnds_cut {b c : Nat → Int} (h : ∀ j, j < 64 → b j = c j) (s : St) : ∀ t, rnds b s t = rnds c s t
  | 0 => rfl
  | t + 1 => by rw [rnds, rnds, rnds_cut h s t, wAt_cut h]
theorem mixS_cut {b c : Nat → Int} (h : ∀ j, j < 64 → b j = c j) (s : St) : mixS b s = mixS c s := by
  unfold mixS
  rw [rnds_cut h s]

theorem Sum_any (v : Value) (xs : List Int) (w : World) (hT : TabS w) (hv : SeqAt .u8 w v xs) (hl : xs.length ≤ 1099511627000) (hB : ∀ x ∈ xs, 0 ≤ x ∧ x ≤ 255) :
    Calls Tryd.prog 53 #[v] w fun e w' => e = .returned (hashV (shaB xs)) ∧ Up w w' := by
  have HT := hid hT
  have HClone := hid (fun w' (hU : Up w w') => bClone_any v xs w' (hv.up hU) (by omega))
  have HBy := hid (padL_byt hB)
  obtain ⟨a0, cap, rfl, hcap1, hcap2⟩ := hv.shape
  obtain ⟨n, hn⟩ : ∃ n, xs.length = n := ⟨_, rfl⟩
  obtain ⟨Z, hZ⟩ : ∃ Z, padZ n = Z := ⟨_, rfl⟩
  obtain ⟨P, hP⟩ : ∃ P, padL xs = P := ⟨_, rfl⟩
  obtain ⟨N, hN⟩ : ∃ N, P.length / 64 = N := ⟨_, rfl⟩
  have HP : Hid (P = padTo xs Z ++ beL 8 (8 * n)) := hid (by rw [← hP, padL_eq, hn, hZ])
  have hPl : P.length = 64 * N := by
    have := padL_length xs
    rw [hP] at this
    omega
  have HPl := hid hPl
  have hNZ : 64 * N = n + 1 + Z + 8 := by
    rw [← hPl, HP.out, List.length_append, padTo_length, beL_length, hn]
  have HNZ := hid hNZ
  have HSha : Hid (shaB xs = outB (blocksS P N)) := hid (by rw [← hN, ← hP]; rfl)
  have hZ2 : ((n + 1 + Z) % 64 = 56 ∧ Z ≤ 63) ∧ ∀ z, z < Z → (n + 1 + z) % 64 ≠ 56 := by
    rw [← hZ]
    unfold padZ
    refine ⟨⟨by omega, by omega⟩, fun z hz => by omega⟩
  have HZ := hid hZ2
  have HLt := hid (fun z => padTo_length xs z)
  rw [hn] at HLt
  have HStep := hid (padTo_step xs)
  have HZero : Hid (xs ++ [128] = padTo xs 0) := hid (by simp [padTo])
  rw [hP] at HBy
  have HXN := hid hn
  rw [hn] at hl hcap1 HClone
  rw [hn]
  clear hT hv hB hn hZ hP hN hPl hNZ hZ2
  go_enter Tryd.func53, Tryd.ntmps53
  go_wp2_with fail
  refine (HClone.out _ ((Up.refl w).alloc _)).mono ?_
  rintro e w1 ⟨v1, rfl, hO1, hU1⟩
  have hO1 := hO1.mono (base' := w.heap.size + 1) (by simp)
  have hZ1 : Blk w1 w.heap.size 28 (arrK .u8 (fun _ => 0) 32) := (Blk.new rfl zero32).up hU1
  have hU1 := ((Up.refl w).alloc _).trans hU1
  obtain ⟨o, ho⟩ : ∃ o, w.heap.size = o := ⟨_, rfl⟩
  have l1 := hZ1.lt
  rw [ho] at hO1 hZ1 l1
  rw [ho]
  have HOo := hid ho
  go_wp2_with (at_builtin; refine wp_app infoU8 Tryd.underlying50 (by omega) rfl _ _ rfl (o + 1) rfl rfl (hO1.up ((Up.refl w1).alloc _)) (seq_new _ _ _) (by have := HXN.out; simp; omega) (by simp; omega) ?_; intro v2 w2 hO2 hg2)
  have hU2 := (hU1.alloc _).own (hO1.up ((Up.refl w1).alloc _)) hg2 (by omega)
  have hZ2 := (hZ1.alloc _).below (below_own (hO1.up ((Up.refl w1).alloc _)) hg2 (by simp; omega)) (by omega)
  rw [HZero.out] at hO2
  obtain ⟨p2, k2, rfl, _, _⟩ := hO2.shape
  have HLt0 : (padTo xs 0).length = n + 1 := HLt.out 0
  rw [HLt0] at hO2
  rw [HLt0]
  clear HLt0
  have HO2 := hid hO2
  have HZ2 := hid hZ2
  have HU2 := hid hU2
  clear hO1 hO2 hZ1 hZ2 hU1 hU2 hg2 l1 ho
  go_loopw [3] (fun vp wr => ∃ (z : Nat) (p : Option Addr) (c : Nat), z ≤ Z ∧ vp = .slice p (n + 1 + z) c ∧ Hid (OwnS 5 .u8 wr (o + 1) (.slice p (n + 1 + z) c) (padTo xs z)) ∧ Hid (Blk wr o 28 (arrK .u8 (fun _ => 0) 32)) ∧ Hid (Up w wr)) (fun vp _ => n + 1 + Z - lenOf vp)
  case atStart => exact ⟨0, _, _, by omega, rfl, HO2, HZ2, HU2⟩
  case round =>
    clear HO2 HZ2 HU2
    obtain ⟨z, p, c, hz, rfl, HO, HB, HU⟩ := hrel
    have hsz : o + 1 ≤ wr.heap.size := by have := HB.out.lt; omega
    by_cases hlt : z < Z
    · have HL := hid (HLt.out z)
      have HS := hid (HStep.out z)
      have HS1 := hid (HLt.out (z + 1))
      have hne := HZ.out.2 z hlt
      have hm : n + 1 + z ≤ n + 70 := by have := HZ.out.1.2; omega
      obtain ⟨m, hme⟩ : ∃ m, n + 1 + z = m := ⟨_, rfl⟩
      have HM := hid hme
      rw [hme] at HO HL hne hm
      rw [hme]
      clear hme
      have d1 : ((m : Int) % 64 != 56) = true := by simp; omega
      go_wp2_with (at_builtin; refine wp_app infoU8 Tryd.underlying50 (by omega) rfl _ _ rfl (o + 1) rfl rfl (HO.out.up ((Up.refl wr).alloc _)) (seq_new _ _ _) (by have := HL.out; simp; omega) (by simp; omega) ?_; intro v' w' hO' hg')
      have hU' := (HU.out.alloc _).own (HO.out.up ((Up.refl wr).alloc _)) hg' (by have := HOo.out; omega)
      have hB' := (HB.out.alloc _).below (below_own (HO.out.up ((Up.refl wr).alloc _)) hg' (by simp; omega)) (by omega)
      rw [HS.out] at hO'
      obtain ⟨p', k', rfl, _, _⟩ := hO'.shape
      rw [HS1.out] at hO'
      rw [HS1.out]
      have HO' := hid hO'
      have HB' := hid hB'
      have HU' := hid hU'
      clear hO' hB' hU' hg'
      go_wp2_with fail
      go_roundw
      case rel => exact ⟨z + 1, _, _, by omega, rfl, HO', HB', HU'⟩
      case measure =>
        have := HM.out
        simp
        omega
    · have hzZ : z = Z := by omega
      have HzZ := hid hzZ
      have HL := hid (HLt.out z)
      have d1 : (((n + 1 + z : Nat) : Int) % 64 != 56) = false := by
        have := HZ.out.1.1
        rw [← hzZ] at this
        simp
        omega
      have hm : n + 1 + z ≤ n + 70 := by have := HZ.out.1.2; omega
      clear hzZ
      obtain ⟨m, hme⟩ : ∃ m, n + 1 + z = m := ⟨_, rfl⟩
      have HM := hid hme
      rw [hme] at HO HL hm d1
      rw [hme]
      clear hme hlt hz
      go_wp2_with fail
      refine (count_any _ _).mono ?_
      rintro e w4 ⟨v4, rfl, hO4, hU4⟩
      have hsz4 := hU4.size
      have HPP : Hid (padTo xs z ++ beL 8 (8 * (n : Int)) = P) := hid (by rw [HzZ.out, HP.out])
      go_wp2_with (first
        | (at_builtin; refine wp_app infoU8 Tryd.underlying50 (by omega) rfl _ _ rfl (o + 1) rfl rfl (HO.out.up hU4) hO4.seq (by have := HL.out; simp [beL_length]; omega) (by omega) ?_; intro v5 w5 hO5 hg5; have hU5 := (HU.out.trans hU4).own (HO.out.up hU4) hg5 (by have := HOo.out; omega); have hB5 := (HB.out.up hU4).below (below_own (HO.out.up hU4) hg5 (by omega)) (by omega); rw [HPP.out] at hO5; obtain ⟨⟨tg, fg, hst⟩, -⟩ := HT.out.up hU5)
        | (refine wpList_load_row rfl 134 _ rfl 0 rfl _ (stA shaStart) _ _ (by assumption) Tryd.underlying134 rfl (by kernel_rfl) ?_)
        | (refine wpList_store_rowTo rfl 134 _ _ rfl rfl _ _ rfl rfl 134 _ (heap_alloc_new _ _) (by rw [stA_size]; kernel_rfl) (by rw [stA_size]; rfl) stA_one ?_; rw [World.setRow_alloc_new]))
      have hS5 := hO5.seq
      have hb5 : ∀ b off c', v5 = .slice (some ⟨b, off, none⟩) P.length c' → b < w5.heap.size := fun b off c' hv => by
        rw [hv] at hS5
        exact hS5.inside (by intro h; have ha := HPl.out; have hb := HNZ.out; rw [h] at ha; simp at ha; omega)
      obtain ⟨p5, k5, rfl, _, _⟩ := hO5.shape
      rw [HPl.out] at hS5 hb5
      rw [HPl.out]
      clear HO HB HU hO4 hU4 hg5 hsz hO5
      obtain ⟨q, hq⟩ : ∃ q, w5.heap.size = q := ⟨_, rfl⟩
      rw [hq]
      obtain ⟨w6, hw6⟩ : ∃ w6, w5.alloc (.cells (stA shaStart) 134) = w6 := ⟨_, rfl⟩
      have HQ6 : Hid (Blk w6 q 134 (stA (blocksS P 0))) := hid (by rw [← hw6]; exact Blk.new hq rfl)
      have HS6 : Hid (SeqAt .u8 w6 (.slice p5 (64 * N) k5) (P.drop (64 * 0))) := hid (by rw [← hw6]; exact hS5.up ((Up.refl w5).alloc _))
      have HB6 : Hid (Blk w6 o 28 (arrK .u8 (fun _ => 0) 32)) := hid (by rw [← hw6]; exact hB5.alloc _)
      have HU6 : Hid (Up w w6) := hid (by rw [← hw6]; exact hU5.alloc _)
      have HP6 : Hid (∀ b off, p5 = some ⟨b, off, none⟩ → b < q) := hid (fun b off h => by rw [← hq]; exact hb5 b off k5 (by rw [h]))
      have hoq : o < q := by have := hB5.lt; omega
      rw [hw6]
      clear hw6 hS5 hb5 hU5 hB5 hst hq d1
      go_loopw [3] (fun vp wr => ∃ (k : Nat) (p : Option Addr) (c : Nat), k ≤ N ∧ vp = .slice p (64 * N - 64 * k) c ∧ Hid (SeqAt .u8 wr (.slice p (64 * N - 64 * k) c) (P.drop (64 * k))) ∧ Hid (∀ b off, p = some ⟨b, off, none⟩ → b < q) ∧ Hid (Blk wr q 134 (stA (blocksS P k))) ∧ Hid (Blk wr o 28 (arrK .u8 (fun _ => 0) 32)) ∧ Hid (Up w wr)) (fun vp _ => lenOf vp)
      case atStart => exact ⟨0, _, _, by omega, rfl, HS6, HP6, HQ6, HB6, HU6⟩
      case round =>
        clear HS6 HP6 HQ6 HB6 HU6
        obtain ⟨k, p, c, hkN, rfl, HS, HPb, HQ, HB, HU⟩ := hrel
        by_cases hk : k < N
        · obtain ⟨b, off, cap', hsh, _⟩ := HS.out.cell (i := 0) (by rw [List.length_drop, HPl.out]; omega)
          simp only [Value.slice.injEq] at hsh
          obtain ⟨rfl, -, -⟩ := hsh
          obtain ⟨_, _, hsh2, hc1, hc2⟩ := HS.out.shape
          simp only [Value.slice.injEq] at hsh2
          obtain ⟨-, -, rfl⟩ := hsh2
          rw [List.length_drop, HPl.out] at hc1
          obtain ⟨S, hS⟩ : ∃ S, blocksS P k = S := ⟨_, rfl⟩
          have HSS : Hid (blocksS P (k + 1) = mixS (blkAt P k) S) := hid (by rw [blocksS, hS])
          rw [hS] at HQ
          have HMix := hid (fun w' (hU : Up wr w') => by
            have h64 : ((P.drop (64 * k)).take 64).length = 64 := by rw [List.length_take, List.length_drop, HPl.out]; omega
            have hm := mix_any S _ _ w' (HT.out.up (HU.out.trans hU)) ((HS.out.up hU).front (m := 64) (by omega)) h64 (fun j => byt_getD (fun x hx => HBy.out x (List.mem_of_mem_drop (List.mem_of_mem_take hx))) j)
            rw [mixS_cut (c := blkAt P k) (fun j hj => by simp [blkAt, List.getD_eq_getElem?_getD, hj])] at hm
            exact hm)
          have hm64 : 64 ≤ 64 * N - 64 * k := by omega
          have hm63 : 64 * N - 64 * k ≤ 1099511628000 := by have := HNZ.out; have := HZ.out.1.2; omega
          obtain ⟨m, hme⟩ : ∃ m, 64 * N - 64 * k = m := ⟨_, rfl⟩
          have HM := hid hme
          rw [hme] at HS hc1 hm64 hm63
          rw [hme]
          clear hme hS
          have c0 : wr.cell? ⟨q, 0, none⟩ = some (.int .u32 S.a) := HQ.out.val rfl
          have c1 : wr.cell? ⟨q, 1, none⟩ = some (.int .u32 S.b) := HQ.out.val rfl
          have c2 : wr.cell? ⟨q, 2, none⟩ = some (.int .u32 S.c) := HQ.out.val rfl
          have c3 : wr.cell? ⟨q, 3, none⟩ = some (.int .u32 S.d) := HQ.out.val rfl
          have c4 : wr.cell? ⟨q, 4, none⟩ = some (.int .u32 S.e) := HQ.out.val rfl
          have c5 : wr.cell? ⟨q, 5, none⟩ = some (.int .u32 S.f) := HQ.out.val rfl
          have c6 : wr.cell? ⟨q, 6, none⟩ = some (.int .u32 S.g) := HQ.out.val rfl
          have c7 : wr.cell? ⟨q, 7, none⟩ = some (.int .u32 S.h) := HQ.out.val rfl
          have z1 : (64 : Int) ≤ (c : Int) := by omega
          have z2 : 64 ≤ c := by omega
          go_wp2_with fail
          go_still_tail 3, (by kernel_rfl)
          change wpList _ _ _ _ _ wr.drew
          have hud := (Up.refl wr).drew
          have HQ2 := hid (HQ.out.up hud)
          generalize wr.drew = w7 at *
          go_wp2_with fail
          refine (HMix.out _ hud).mono ?_
          rintro e w8 ⟨rfl, hU8⟩
          have hQ8 := HQ2.out.up hU8
          have hS8 := HS.out.up (hud.trans hU8)
          have hB8 := HB.out.up (hud.trans hU8)
          have hU9 := HU.out.trans (hud.trans hU8)
          clear c0 c1 c2 c3 c4 c5 c6 c7 HQ HQ2 HS HB HU HMix hud
          by_cases hc : c = 64
          all_goals
            go_wp2_with (refine wpList_store_rowTo rfl 134 _ _ rfl rfl _ _ rfl rfl 134 _ hQ8 (by rw [stA_size]; kernel_rfl) (by rw [stA_size, stA_size]) stA_one ?_)
          · have hm : m = 64 := by omega
            go_roundw
            case rel => exact ⟨k + 1, some ⟨b, off, none⟩, 0, by omega, by rw [show 64 * N - 64 * (k + 1) = m - 64 by have := HM.out; omega], hid (by
              rw [show 64 * N - 64 * (k + 1) = 0 by have := HM.out; omega, List.drop_eq_nil_of_le (by have := HM.out; rw [HPl.out]; omega)]
              exact seq_zero _ _ (by omega)), HPb, hid (by rw [HSS.out]; exact hQ8.row _), hid (hB8.rowApart (by omega) _), hid (hU9.setRow (by have := HOo.out; omega) _)⟩
            case measure => simp; omega
          · go_roundw
            case rel => exact ⟨k + 1, some ⟨b, off + 64, none⟩, c - 64, by omega, by rw [show 64 * N - 64 * (k + 1) = m - 64 by have := HM.out; omega], hid (by
              rw [show 64 * N - 64 * (k + 1) = m - 64 by have := HM.out; omega, show 64 * (k + 1) = 64 * k + 64 by omega, ← List.drop_drop]
              exact (hS8.back hm64).below (below_setRow (Below.refl q w8) (Nat.le_refl q) _) (fun b' off' n' c' h => by
                simp only [Value.slice.injEq, Option.some.injEq, Addr.mk.injEq] at h
                obtain ⟨⟨rfl, -, -⟩, -, -⟩ := h
                exact HPb.out _ _ rfl)), hid (fun b' off' h => by
                simp only [Option.some.injEq, Addr.mk.injEq] at h
                obtain ⟨rfl, -, -⟩ := h
                exact HPb.out _ _ rfl), hid (by rw [HSS.out]; exact hQ8.row _), hid (hB8.rowApart (by omega) _), hid (hU9.setRow (by have := HOo.out; omega) _)⟩
            case measure => simp; omega
        · have hkN2 : k = N := by omega
          have HSha2 : Hid (shaB xs = outB (blocksS P k)) := hid (by rw [hkN2]; exact HSha.out)
          obtain ⟨S, hS⟩ : ∃ S, blocksS P k = S := ⟨_, rfl⟩
          rw [hS] at HQ HSha2
          have hm0 : 64 * N - 64 * k = 0 := by omega
          rw [hm0]
          clear hS hkN2 hm0 HS HPb hk
          go_wp2_with (refine wpList_load_row rfl 134 _ rfl q rfl 134 (stA S) (0, 0) _ ((Blk.alloc HQ.out _)) Tryd.underlying134 rfl (by rw [stA_size]; kernel_rfl) ?_)
          obtain ⟨f, hf⟩ : ∃ f : Nat → Int, outB S = f := ⟨_, rfl⟩
          have HF := hid hf
          rw [hf] at HSha2
          obtain ⟨g, hg⟩ : ∃ g, wr.heap.size = g := ⟨_, rfl⟩
          have hog : o < g := by have := HB.out.lt; omega
          rw [hg]
          clear hf
          go_loopw [38] (fun vi wr2 => ∃ i : Nat, i ≤ 8 ∧ vi = .int .i64 i ∧ Hid (Blk wr2 g 28 (arrK .u8 (pfill f (4 * i)) 32)) ∧ Hid (Blk wr2 o 28 (arrK .u8 (fun _ => 0) 32)) ∧ Hid (Up w wr2)) (fun vi _ => 8 - (intOf vi).toNat)
          case atStart => exact ⟨0, by omega, rfl, hid (Blk.new hg (zero32.trans (pfill_zero _ _ _))), hid (HB.out.alloc _), hid (HU.out.alloc _)⟩
          case round =>
            clear HB HU HQ
            obtain ⟨i, hi, rfl, HG, HB, HU⟩ := hrel
            by_cases hil : i < 8
            · have q3 : ∀ w', (Instr.index 134 (.agg (stA S)) (.int .i64 i)).run Tryd.prog w' = .ok (.int .u32 (S.get i)) w' := fun w' => index8 S i hil w'
              have HFS : Hid (∀ k, k < 4 → f (4 * i + k) = S.get i / 2 ^ (24 - 8 * k) % 256) := hid (fun k hk => by
                rw [← HF.out, outB, show (4 * i + k) / 4 = i by omega, show (4 * i + k) % 4 = k by omega])
              generalize S.get i = x at *
              go_wp2_with fail
              clear q3
              go_loopw [42] (fun vk wr3 => ∃ k : Nat, k ≤ 4 ∧ vk = .int .i64 k ∧ Hid (Blk wr3 g 28 (arrK .u8 (pfill f (4 * i + k)) 32)) ∧ Hid (Blk wr3 o 28 (arrK .u8 (fun _ => 0) 32)) ∧ Hid (Up w wr3)) (fun vk _ => 4 - (intOf vk).toNat)
              case atStart => exact ⟨0, by omega, rfl, HG, HB, HU⟩
              case round =>
                clear HG HB HU
                obtain ⟨k, hk, rfl, HG, HB, HU⟩ := hrel
                by_cases hkl : k < 4
                · have q1 := HG.out.val (pfill_at (k := .u8) (f := f) (i := 4 * i + k) (n := 32) (by omega))
                  have q2 := HG.out.thawed (4 * i + k)
                  have HP2 := hid (pfill_put .u8 f (4 * i + k) 32)
                  have HFK := hid (HFS.out k hkl)
                  go_wp2_with fail
                  go_roundw
                  case rel => exact ⟨k + 1, by omega, by go_num, hid (by rw [← Nat.add_assoc, ← HP2.out, HFK.out]; exact HG.out.wrote _ _), hid (HB.out.apart (by show o ≠ g; omega) _), hid (HU.out.setCell (by have := HOo.out; show w.heap.size ≤ g; omega) _)⟩
                  case measure => simp [intOf]; omega
                · have HG2 := hid HG.out
                  rw [show 4 * i + k = 4 * (i + 1) by omega] at HG2
                  go_wp2_with fail
                  go_roundw
                  case rel => exact ⟨i + 1, by omega, by go_num, HG2, HB, HU⟩
                  case measure => simp [intOf]; omega
            · have HG2 := hid HG.out
              rw [show 4 * i = 32 by omega, pfill_all] at HG2
              clear HG
              have HSV : Hid (hashV (shaB xs) = .agg (arrK .u8 f 32)) := hid (by rw [hashV, HSha2.out])
              go_wp2_with (first | (refine wpList_load_row rfl 28 _ rfl g rfl 28 (arrK .u8 f 32) (0, 0) _ HG2.out Tryd.underlying28 rfl (by rw [arrK_size]; kernel_rfl) ?_) | (refine wpList_store_rowTo rfl 28 _ _ rfl rfl _ _ rfl rfl 28 _ HB.out (by rw [arrK_size]; kernel_rfl) (by rw [arrK_size, arrK_size]) arrK_one ?_))
              refine bodyPost_ret (v := .agg (arrK .u8 f 32)) (results_cell_row rfl _ _ o 28 _ (0, 0) _ (by rfl) (HB.out.row _) Tryd.underlying28 rfl (by rw [arrK_size]; kernel_rfl)) rfl ⟨by rw [HSV.out], HU.out.setRow (by have := HOo.out; omega) _⟩
end Go.Proofs.YtkimojconidhlaaDoor
namespace Go.Sp
open Go.RowKit

/-- append(v, u...) onto the call's own: at the operation. -/
theorem op_app {P : Program} {e t : TypeId} {k : IntKind} {bytes : Nat} (hI : (P.info? e).map (fun i => (i.zero, i.size, i.bytes)) = some (some (.int k 0), 1, bytes)) (ht : P.underlying t = some (.slice e)) (hby : bytes ≤ 8)
    {o : Oper} {a : Act} {w : World} {K : Act → World → Prop} {Q : Exit → Act → World → Prop} (s x : Operand)
    (ho : o.op = .call { callee := .builtin .append, args := #[s, x], argTypes := #[t, t] })
    (base : Nat) {v u : Value} {xs ys : List Int} (hs : a.eval s = v) (hx : a.eval x = u) (hown : OwnS e k w base v xs) (hsrc : SeqAt k w u ys) (hroom : xs.length + ys.length ≤ 17592186044416) (hbase : base ≤ w.heap.size)
    (h : ∀ v' w', OwnS e k w' base v' (xs ++ ys) → w.grownBy w' v.ownBlock → K (a.put o.dst v') w') : o.wp P a w K Q := by
  obtain ⟨i0, hi, hz0, hz1, hz2⟩ := info_parts hI
  obtain ⟨ad, cap, rfl, _, _, hcap, hc⟩ := hsrc
  have hown' : w.ownsRow base e 1 v xs.length (xs.map (Value.int k)) := hown
  by_cases hne : ys = []
  · subst hne
    cases ad with
    | none =>
      have hcap := hcap rfl
      subst hcap
      have hrun := run_append_owned_none (P := P) (w := w) base t o.type e i0 1 ht hi v xs.length _ hown'
      unfold Oper.wp execOp
      simp only [ho, resolve, invoke, builtin, Sem.run_bind, Sem.run_pure, Result.andThen_ok, List.map_toArray, List.map_cons, List.map_nil, hs, hx, List.length_nil, hrun]
      exact h v w (by rw [List.append_nil]; exact hown) (World.grownBy.refl _ _)
    | some ad =>
      refine wp_append_own w s x t ho base e i0 (.int k 0) 1 bytes ht hi hz0 hz1 hz2 rfl (by decide) v xs.length _ hs hown' ad 0 cap [] hx rfl (fun j u hj => by simp at hj) (fun u hu => by cases hu) (by unfold maxLen; omega) (by
        have := Nat.mul_le_mul (show xs.length + 0 ≤ 17592186044416 by simp at hroom; omega) hby
        omega) hbase fun v' w' h1 h2 _ => h v' w' (by
          unfold OwnS
          rw [List.append_nil]
          simpa using h1) h2
  · obtain ⟨b, off, rfl, hcell⟩ := hc hne
    refine wp_append_own w s x t ho base e i0 (.int k 0) 1 bytes ht hi hz0 hz1 hz2 rfl (by decide) v xs.length _ hs hown' ⟨b, off, none⟩ ys.length cap (ys.map (Value.int k)) hx (by simp) (fun j u hj => by
        simp only [List.getElem?_map, Option.map_eq_some_iff] at hj
        obtain ⟨y, hy, rfl⟩ := hj
        have hj2 : j < ys.length := (List.getElem?_eq_some_iff.1 hy).1
        have := hcell j hj2
        rw [Addr.add_lit, this]
        simp [hy]) (ints_oneCell _ _) (by unfold maxLen; omega) (by
        have := Nat.mul_le_mul hroom hby
        omega) hbase fun v' w' h1 h2 _ => h v' w' (by
          unfold OwnS
          rw [List.length_append, List.map_append]
          exact h1) h2

/-- The same at a step of a region that draws its order. -/
theorem step_app {P : Program} {e t : TypeId} {k : IntKind} {bytes : Nat} (hI : (P.info? e).map (fun i => (i.zero, i.size, i.bytes)) = some (some (.int k 0), 1, bytes)) (ht : P.underlying t = some (.slice e)) (hby : bytes ≤ 8)
    {ops : Array Oper} {o : Oper} {a : Act} {w : World} {K : Act → World → Prop} {Q : Exit → Act → World → Prop} {E : Prop} (hgd : o.guard = none) (s x : Operand)
    (ho : o.op = .call { callee := .builtin .append, args := #[s, x], argTypes := #[t, t] })
    (base : Nat) {v u : Value} {xs ys : List Int} (hs : a.eval s = v) (hx : a.eval x = u) (hown : OwnS e k w base v xs) (hsrc : SeqAt k w u ys) (hroom : xs.length + ys.length ≤ 17592186044416) (hbase : base ≤ w.heap.size)
    (h : ∀ v' w', OwnS e k w' base v' (xs ++ ys) → w.grownBy w' v.ownBlock → K (a.put o.dst v') w') : if Region.wanted o (yielded ops a.tmps) = true then Oper.wp P o a w K Q else E := by
  have hw : Region.wanted o (yielded ops a.tmps) = true := by simp [Region.wanted, hgd]
  rw [if_pos hw]
  exact op_app hI ht hby s x ho base hs hx hown hsrc hroom hbase h

theorem step_store_row {P : Program} {ops : Array Oper} {o : Oper} {a : Act} {w : World} {K : Act → World → Prop} {Q : Exit → Act → World → Prop} {E : Prop} (hgd : o.guard = none) (ty : TypeId) (x y : Operand) (ho : o.op = .store ty x y) (hd : o.dst = none)
    (g : Nat) (cells : Array Value) (hx : a.eval x = .pointer (some ⟨g, 0, none⟩)) (hy : a.eval y = .agg cells)
    (t : TypeId) (old : Array Value) (hg : w.heap[g]? = some (.cells old t (0, 0))) (hi : (P.info? ty).map (·.size) = some cells.size)
    (hold : old.size = cells.size) (h1 : cells.all (·.oneCell') = true)
    (h : K a (w.setRow g cells)) : if Region.wanted o (yielded ops a.tmps) = true then Oper.wp P o a w K Q else E := by
  have hw : Region.wanted o (yielded ops a.tmps) = true := by simp [Region.wanted, hgd]
  rw [if_pos hw]
  exact wp_store_row ty x y ho g cells hx hy t old hg hi hold h1 (by rw [hd]; exact h)

/-- A whole row stored cell by cell. -/
theorem setCells_row {g : Nat} {t : TypeId} : ∀ (cs pre post : List Value) (w : World), w.heap[g]? = some (.cells (pre ++ post).toArray t (0, 0)) → post.length = cs.length →
    (w.setCells g pre.length cs).heap[g]? = some (.cells (pre ++ cs).toArray t (0, 0))
  | [], pre, post, w, h, hl => by
    have : post = [] := List.length_eq_zero_iff.1 hl
    subst this
    exact h
  | v :: cs, pre, [], w, _, hl => by simp at hl
  | v :: cs, pre, p :: post, w, h, hl => by
    have h1 := heap_setCell_same w g pre.length _ t v h
    have e : ((pre ++ p :: post).toArray.setIfInBounds pre.length v) = ((pre ++ [v]) ++ post).toArray := by
      simp
    rw [e] at h1
    have := setCells_row cs (pre ++ [v]) post _ h1 (by simpa using hl)
    rw [World.setCells]
    simpa using this

theorem Blk.mid {w : World} {g : Nat} {t : TypeId} {old : Array Value} (h : Blk w g t old) (cs : List Value) (hl : old.size = cs.length) : Blk (w.setCells g 0 cs) g t cs.toArray := by
  have h' : w.heap[g]? = some (.cells ([] ++ old.toList).toArray t (0, 0)) := by
    have h0 : w.heap[g]? = some (.cells old t (0, 0)) := h
    simpa using h0
  have := setCells_row (g := g) (t := t) cs [] old.toList w h' (by simpa using hl)
  show (w.setCells g 0 cs).heap[g]? = some (.cells cs.toArray t (0, 0))
  simpa using this

theorem Up.setCells {w0 : World} {g : Nat} (hg : w0.heap.size ≤ g) : ∀ (cs : List Value) (i : Nat) {w : World}, Up w0 w → Up w0 (w.setCells g i cs)
  | [], _, _, h => h
  | v :: cs, i, w, h => by
    rw [World.setCells]
    exact Up.setCells hg cs (i + 1) (h.setCell hg v)

theorem Blk.there {w : World} {g : Nat} {t : TypeId} {cs : Array Value} {n : Nat} (h : Blk w g t cs) (hn : n ≤ cs.size) : w.there g 0 n := fun j hj => by
  rw [h.read, h.thawed]
  simp
  omega

/-- Whatever world. -/
def AnyW (_ : World) : Prop := True
theorem anyW (w : World) : AnyW w := trivial

/-- Results: a whole row, and slots. -/
theorem results_row_tmp {P : Program} {fn : Func} {p u : Tmp} {ty : TypeId} (h : fn.results = #[.cell p ty, .tmp u]) (tmps : Array Value) (w : World) (g : Nat) (t : TypeId) (cs : Array Value) (fr : Nat × Nat) (d : TypeDesc)
    (hp : tmps.getD p undef = .pointer (some ⟨g, 0, none⟩)) (hg : w.heap[g]? = some (.cells cs t fr))
    (hu : P.underlying ty = some d) (hd : (match d with | .struct _ | .array _ _ => true | _ => false) = true) (hi : (P.info? ty).map (·.size) = some cs.size) :
    (results fn tmps).run P w = .ok (.tuple #[.agg cs, tmps.getD u undef]) w := by
  rw [results_cell_tmp h, hp]
  simp [asAddr, Sem.run_pure, Result.andThen, run_loadVar_row w g t ty cs fr d hg hu hd hi]

theorem results_row_tmp2 {P : Program} {fn : Func} {p u v : Tmp} {ty : TypeId} (h : fn.results = #[.cell p ty, .tmp u, .tmp v]) (tmps : Array Value) (w : World) (g : Nat) (t : TypeId) (cs : Array Value) (fr : Nat × Nat) (d : TypeDesc)
    (hp : tmps.getD p undef = .pointer (some ⟨g, 0, none⟩)) (hg : w.heap[g]? = some (.cells cs t fr))
    (hu : P.underlying ty = some d) (hd : (match d with | .struct _ | .array _ _ => true | _ => false) = true) (hi : (P.info? ty).map (·.size) = some cs.size) :
    (results fn tmps).run P w = .ok (.tuple #[.agg cs, tmps.getD u undef, tmps.getD v undef]) w := by
  have hp' : tmps[p]?.getD undef = .pointer (some ⟨g, 0, none⟩) := by simpa using hp
  simp only [results, h]
  simp [Result.andThen, hp', asAddr, run_loadVar_row w g t ty cs fr d hg hu hd hi]

/-- A text as bytes. -/
def txt (s : ByteArray) : List Int := s.data.toList.map fun c => (c.toNat : Int)
theorem txt_length (s : ByteArray) : (txt s).length = s.size := by rw [txt, List.length_map]; rfl
theorem txt_byt (s : ByteArray) : ∀ x ∈ txt s, 0 ≤ x ∧ x ≤ 255 := by
  intro x hx
  simp only [txt, List.mem_map] at hx
  obtain ⟨c, _, rfl⟩ := hx
  have : c.toNat < 256 := c.toNat_lt
  omega

theorem seq_text (w : World) (s : ByteArray) (c : Nat) (e : TypeId) (fr : Nat × Nat) (hc : s.size ≤ c) (h63 : c ≤ 9223372036854775807) :
    SeqAt .u8 (w.alloc (.cells (bytesRow s c) e fr)) (.slice (some ⟨w.heap.size, 0, none⟩) s.size c) (txt s) :=
  seq_block (heap_alloc_new w _) (txt s) 0 s.size c (txt_length s) hc h63 fun i hi => by
    have hi2 : i < s.data.size := hi
    rw [Nat.zero_add, bytesRow, Array.getElem?_append_left (by simpa using hi2)]
    simp [txt, Array.getElem?_eq_getElem hi2]

theorem seq_text_at {w : World} {g : Nat} (s : ByteArray) (c : Nat) (e : TypeId) (fr : Nat × Nat) (hg : w.heap.size = g) (hc : s.size ≤ c) (h63 : c ≤ 9223372036854775807) :
    SeqAt .u8 (w.alloc (.cells (bytesRow s c) e fr)).drew (.slice (some ⟨g, 0, none⟩) s.size c) (txt s) := by
  subst hg
  exact (seq_text w s c e fr hc h63).up (Up.refl _).drew
theorem cap_ge {w : World} {n : Nat} {e : TypeId} : n ≤ grownCap w n 0 e := grownCap_ge _ _ _ _
theorem cap_le {w : World} {n : Nat} {e : TypeId} (h : n ≤ 9223372036854775807) : grownCap w n 0 e ≤ 9223372036854775807 := by
  have := grownCap_le_maxLen w n 0 e (by unfold maxLen; omega)
  unfold maxLen at this
  omega
end Go.Sp
namespace Go.Proofs.YtkimojconidhlaaDoor
open Go.RowKit Go.Sp
set_option maxHeartbeats 2000000
set_option maxRecDepth 20000

theorem hashV_seq {w : World} {g : Nat} {t : TypeId} {h : Nat → Int} (hb : Blk w g t (arrK .u8 h 32)) : SeqAt .u8 w (.slice (some ⟨g, 0, none⟩) 32 32) (hList h) := by
  have := hb.seq 0 32 32 (by omega) (by omega) (by omega)
  simpa [hList] using this

theorem hList_byt {h : Nat → Int} (hb : ∀ i, 0 ≤ h i ∧ h i ≤ 255) : ∀ x ∈ hList h, 0 ≤ x ∧ x ≤ 255 := by
  intro x hx
  simp only [hList, List.mem_map] at hx
  obtain ⟨i, _, rfl⟩ := hx
  exact hb i

theorem Tagged_any (s : ByteArray) (v : Value) (xs : List Int) (w : World) (hT : TabS w) (hs0 : 1 ≤ s.size) (hs1 : s.size ≤ 100) (hv : SeqAt .u8 w v xs) (hl : xs.length ≤ 1099511626000) (hB : ∀ x ∈ xs, 0 ≤ x ∧ x ≤ 255) :
    Calls Tryd.prog 75 #[.string s, v] w fun e w' => e = .returned (.tuple #[hashV (tagB (txt s) xs), .int .i64 0]) ∧ Up w w' := by
  have HT := hid hT
  have HV := hid hv
  have HTx := hid (txt_byt s)
  have HTl := hid (txt_length s)
  obtain ⟨h, hh⟩ : ∃ h, shaB (txt s) = h := ⟨_, rfl⟩
  have HH := hid hh
  have Hhb : Hid (∀ i, 0 ≤ h i ∧ h i ≤ 255) := hid (by rw [← hh]; exact shaB_range _)
  have HR : Hid (tagB (txt s) xs = shaB (hList h ++ hList h ++ xs)) := hid (by rw [tagB, hh])
  obtain ⟨R, hR⟩ : ∃ R, tagB (txt s) xs = R := ⟨_, rfl⟩
  rw [hR] at HR
  rw [hR]
  have HS1 := hid (fun w' (v' : Value) (hU : Up w w') (hv' : SeqAt .u8 w' v' (txt s)) => Sum_any v' (txt s) w' (HT.out.up hU) hv' (by rw [txt_length]; omega) HTx.out)
  rw [hh] at HS1
  have HS2 := hid (fun w' (v' : Value) (hU : Up w w') (hv' : SeqAt .u8 w' v' (hList h ++ hList h ++ xs)) => Sum_any v' _ w' (HT.out.up hU) hv' (by simp [hList_length]; omega) (by
    intro x hx
    simp only [List.mem_append] at hx
    rcases hx with (hx | hx) | hx
    · exact hList_byt Hhb.out x hx
    · exact hList_byt Hhb.out x hx
    · exact hB x hx))
  rw [← HR.out] at HS2
  have hcv := fun w' => run_bytes_of_string (P := Tryd.prog) w' 9 50 5 s Tryd.underlying9 Tryd.underlying50 Tryd.underlying5
  obtain ⟨n, hn⟩ : ∃ n, xs.length = n := ⟨_, rfl⟩
  have HN := hid hn
  obtain ⟨va, vc, rfl, _, _⟩ := hv.shape
  rw [hn] at HV hl
  rw [hn]
  clear hT hv hh hR hn hB
  go_enter Tryd.func75, Tryd.ntmps75
  go_wp2_with fail
  refine (HS1.out _ _ (((Up.refl w).alloc _).alloc _).drew (seq_text_at s _ _ _ (by simp) cap_ge (cap_le (by omega)))).mono ?_
  rintro e w1 ⟨rfl, hU1⟩
  have hZ1 : Blk w1 w.heap.size 28 (arrK .u8 (fun _ => 0) 32) := (((Blk.new rfl zero32).alloc _).up (Up.refl _).drew).up hU1
  have hU1 := (((Up.refl w).alloc _).alloc _).drew.trans hU1
  obtain ⟨o, ho⟩ : ∃ o, w.heap.size = o := ⟨_, rfl⟩
  have HOo := hid ho
  rw [ho] at hZ1
  rw [ho]
  have l1 := hZ1.lt
  clear hcv ho HS1
  unfold hashV
  go_wp2_with (first | (refine wpList_store_rowTo rfl 28 _ _ rfl rfl _ _ rfl rfl 28 _ (heap_alloc_new _ _) (by rw [arrK_size]; kernel_rfl) (by rw [arrK_size]; rfl) arrK_one ?_; rw [World.setRow_alloc_new]))
  obtain ⟨g, hg⟩ : ∃ g, w1.heap.size = g := ⟨_, rfl⟩
  rw [hg]
  obtain ⟨w2, hw2⟩ : ∃ w2, w1.alloc (.cells (arrK .u8 h 32) 28) = w2 := ⟨_, rfl⟩
  have hG2 : Blk w2 g 28 (arrK .u8 h 32) := by rw [← hw2]; exact Blk.new hg rfl
  have hZ2 : Blk w2 o 28 (arrK .u8 (fun _ => 0) 32) := by rw [← hw2]; exact hZ1.alloc _
  have hU2 : Up w w2 := by rw [← hw2]; exact hU1.alloc _
  rw [hg] at l1
  rw [hw2]
  have HG := hid (hashV_seq hG2)
  have HZ := hid hZ2
  have HU := hid hU2
  have hsz := hG2.lt
  clear hw2 hZ1 hU1 hG2 hZ2 hU2 hg
  have HLn := hid (hList_length h)
  have hwz := HU.out.size
  obtain ⟨cs, hcs⟩ : ∃ cs, (arrK .u8 R 32).toList = cs := ⟨_, rfl⟩
  have hV : hashV R = .agg cs.toArray := by rw [← hcs]; rfl
  have HCs := hid hV
  rw [hV] at HS2
  have hcl : cs.length = 32 := by rw [← hcs]; simp [arrK]
  have hci : (Tryd.prog.info? 28).map (·.size) = some cs.length := by rw [hcl]; kernel_rfl
  have hco : ∀ v ∈ cs, v.oneCell' = true := by
    rw [← hcs]
    intro v hv
    have := Array.all_eq_true_iff_forall_mem.1 (arrK_one (k := .u8) (f := R) (n := 32)) v (by simpa using hv)
    exact this
  clear hV hcs
  have hS0 := anyW w2
  have hS1 := anyW w2.drew
  go_region_held3 AnyW (exact anyW _) (first
    | (go_at_call 71; refine (bClone_any _ (hList h) _ (HG.out.up (by first | exact (Up.refl _).drew | exact Up.refl _ | exact (Up.refl _).drew.drew)) (by rw [hList_length]; omega)).mono ?_; rintro e w3 ⟨v3, rfl, hO3, hU3⟩; have hD3 := Up.trans (by first | exact (Up.refl w2).drew | exact Up.refl w2 | exact (Up.refl w2).drew.drew) hU3)
    | (refine step_app infoU8 Tryd.underlying50 (by omega) (by rfl) _ _ (by rfl) w2.heap.size (by rfl) (by rfl) hO3 (HG.out.up hD3) (by have := HLn.out; omega) hD3.size ?_; intro v4 w4 hO4 hg4; have hU4 := (HU.out.trans hD3).own hO3 hg4 hwz; have hB4 := below_own hO3 hg4 hD3.size)
    | (refine step_app infoU8 Tryd.underlying50 (by omega) (by rfl) _ _ (by rfl) w2.heap.size (by rfl) (by rfl) hO4 (HV.out.up hU4) (by have := HLn.out; have := HN.out; simp; omega) (by have := hB4.size; have := hD3.size; omega) ?_; intro v5 w5 hO5 hg5; have hU5 := hU4.own hO4 hg5 hwz; have hB5 := below_own hO4 hg5 (by have := hB4.size; have := hD3.size; omega))
    | (go_at_call 53; refine (HS2.out _ _ (by first | exact hU5 | exact hU5.drew) (by first | exact hO5.seq | exact hO5.seq.up (Up.refl _).drew)).mono ?_; rintro e w6 ⟨rfl, hU6⟩; have hZ6 := (((HZ.out.up hD3).below hB4 HZ.out.lt).below hB5 HZ.out.lt).up hU6; have hth : w6.there o 0 32 := hZ6.there (by rw [arrK_size]; omega)))
  have hZ7 := hZ6.mid cs (by rw [arrK_size, hcl])
  have hU7 := Up.setCells (g := o) (by have := HOo.out; omega) cs 0 (hU5.trans hU6)
  clear hO3 hU3 hD3 hO4 hg4 hU4 hB4 hO5 hg5 hU5 hB5 hU6 hZ6 hth
  go_wp2
  refine bodyPost_ret (v := .tuple #[.agg cs.toArray, .int .i64 0]) (results_row_tmp Tryd.results75 _ _ o 28 _ (0, 0) _ (by rfl) hZ7 Tryd.underlying28 rfl (by rw [hci]; simp)) rfl ⟨by rw [HCs.out], hU7⟩
end Go.Proofs.YtkimojconidhlaaDoor
namespace Go.Sp

def encInt (n : Int) : List Int := 1 :: beL 8 (IntKind.u64.wrap n)
def encBytes (xs : List Int) : List Int := 2 :: (beL 4 xs.length ++ xs)
def encList (es : List (List Int)) : List Int := 3 :: (beL 4 es.length ++ es.flatten)

theorem encInt_length (n : Int) : (encInt n).length = 9 := by rw [encInt, List.length_cons, beL_length]
theorem encBytes_length (xs : List Int) : (encBytes xs).length = xs.length + 5 := by rw [encBytes, List.length_cons, List.length_append, beL_length]; omega
theorem encList_length (es : List (List Int)) : (encList es).length = es.flatten.length + 5 := by rw [encList, List.length_cons, List.length_append, beL_length]; omega

/-- The frame that a transcript hashes. -/
def frameE (h : Nat → Int) (label : List Int) (more : List (List Int)) : List Int := encList (encBytes (hList h) :: encBytes label :: more)

theorem frameE_length (h : Nat → Int) (label : List Int) (more : List (List Int)) : (frameE h label more).length = 47 + label.length + more.flatten.length := by
  rw [frameE, encList_length, List.flatten_cons, List.flatten_cons, List.length_append, List.length_append, encBytes_length, encBytes_length, hList_length]; omega

def tagTr : List Int := [115, 112, 101, 99, 105, 101, 47, 116, 114, 97, 110, 115, 99, 114, 105, 112, 116]
def tagAbsorb : List Int := [115, 112, 101, 99, 105, 101, 47, 97, 98, 115, 111, 114, 98]
def tagChal : List Int := [115, 112, 101, 99, 105, 101, 47, 99, 104, 97, 108, 108, 101, 110, 103, 101]
def tagCoin : List Int := [115, 112, 101, 99, 105, 101, 47, 99, 111, 105, 110]

def trNew (label : List Int) : Nat → Int := tagB tagTr label
def absB (h : Nat → Int) (label item : List Int) : Nat → Int := tagB tagAbsorb (frameE h label [item])
def chalN (h : Nat → Int) (label : List Int) (q : Int) : Int := numH (tagB tagChal (frameE h label [])) q

def lbSig : List Int := [115, 105, 103, 110, 97, 116, 117, 114, 101]
def lbGroup : List Int := [103, 114, 111, 117, 112]
def lbKey : List Int := [107, 101, 121]
def lbComm : List Int := [99, 111, 109, 109, 105, 116, 109, 101, 110, 116]
def lbMsg : List Int := [109, 101, 115, 115, 97, 103, 101]
def lbChal : List Int := [99, 104, 97, 108, 108, 101, 110, 103, 101]

def encInts (l : List Int) : List Int := encList (l.map encInt)

/-- The challenge of a signature. -/
def sigC (P Q G r y : Int) (m : List Int) : Int :=
  chalN (absB (absB (absB (absB (trNew lbSig) lbGroup (encInts [P, Q, G])) lbKey (encInts [y])) lbComm (encInts [r])) lbMsg (encBytes (hList (shaB m)))) lbChal Q

/-- The challenge of a coin. -/
def coinC (P Q G A B C p : Int) (root : Nat → Int) (z a b : Int) : Int :=
  numH (tagB tagCoin (encList ([P, Q, G, A, B, C, p].map encInt ++ encBytes (hList root) :: [z, a, b].map encInt))) Q

theorem numH_range (h : Nat → Int) {m : Int} (hm : 0 < m) : 0 ≤ numH h m ∧ numH h m < m := numB_range hm 16
theorem sigC_range (P G r y : Int) (m : List Int) {Q : Int} (hQ : 0 < Q) : 0 ≤ sigC P Q G r y m ∧ sigC P Q G r y m < Q := numH_range _ hQ
theorem coinC_range (P G A B C p : Int) (root : Nat → Int) (z a b : Int) {Q : Int} (hQ : 0 < Q) : 0 ≤ coinC P Q G A B C p root z a b ∧ coinC P Q G A B C p root z a b < Q := numH_range _ hQ

theorem beL_bytes (n : Nat) (x : Int) : ∀ y ∈ beL n x, 0 ≤ y ∧ y ≤ 255 := by
  intro y hy
  simp only [beL, List.mem_map] at hy
  obtain ⟨i, _, rfl⟩ := hy
  have := Int.emod_lt_of_pos (x / 2 ^ (8 * (n - 1 - i))) (show (0 : Int) < 256 by decide)
  exact ⟨Int.emod_nonneg _ (by decide), by omega⟩
theorem encInt_byt (n : Int) : ∀ y ∈ encInt n, 0 ≤ y ∧ y ≤ 255 := by
  intro y hy
  simp only [encInt, List.mem_cons] at hy
  rcases hy with rfl | hy
  · omega
  · exact beL_bytes _ _ y hy
theorem encBytes_byt {xs : List Int} (h : ∀ y ∈ xs, 0 ≤ y ∧ y ≤ 255) : ∀ y ∈ encBytes xs, 0 ≤ y ∧ y ≤ 255 := by
  intro y hy
  simp only [encBytes, List.mem_cons, List.mem_append] at hy
  rcases hy with rfl | hy | hy
  · omega
  · exact beL_bytes _ _ y hy
  · exact h y hy
theorem encList_byt {es : List (List Int)} (h : ∀ e ∈ es, ∀ y ∈ e, 0 ≤ y ∧ y ≤ 255) : ∀ y ∈ encList es, 0 ≤ y ∧ y ≤ 255 := by
  intro y hy
  simp only [encList, List.mem_cons, List.mem_append, List.mem_flatten] at hy
  rcases hy with rfl | hy | ⟨e, he, hy⟩
  · omega
  · exact beL_bytes _ _ y hy
  · exact h e he y hy
theorem hList_bytes {h : Nat → Int} (hB : Byt h) : ∀ y ∈ hList h, 0 ≤ y ∧ y ≤ 255 := by
  intro y hy
  simp only [hList, List.mem_map] at hy
  obtain ⟨i, _, rfl⟩ := hy
  exact hB i

/-- The items of a coin's challenge. -/
def coinL (P Q G A B C p : Int) (root : Nat → Int) (z a b : Int) : List (List Int) := [P, Q, G, A, B, C, p].map encInt ++ encBytes (hList root) :: [z, a, b].map encInt
theorem coinL_flat (P Q G A B C p : Int) (root : Nat → Int) (z a b : Int) : (coinL P Q G A B C p root z a b).flatten.length = 127 := by
  simp [coinL, encInt_length, encBytes_length, hList_length]
theorem coinL_byt {P Q G A B C p : Int} {root : Nat → Int} {z a b : Int} (hB : Byt root) : ∀ y ∈ encList (coinL P Q G A B C p root z a b), 0 ≤ y ∧ y ≤ 255 := by
  refine encList_byt fun e he => ?_
  simp only [coinL, List.map_cons, List.map_nil, List.mem_append, List.mem_cons, List.not_mem_nil, or_false] at he
  rcases he with (rfl | rfl | rfl | rfl | rfl | rfl | rfl) | rfl | rfl | rfl | rfl
  all_goals first | exact encInt_byt _ | exact encBytes_byt (hList_bytes hB)

end Go.Sp
namespace Go.Sp
open Go.RowKit

/-- An item as a value. -/
abbrev nilS : Value := .slice none 0 0
abbrev itm (k n : Int) (b l : Value) : Value := .agg #[.int .i64 k, .int .i64 n, b, l]

/-- The cells of an item at an offset of a block. -/
def ItmCells (w : World) (b o : Nat) (k n : Int) (vb vl : Value) : Prop :=
  w.cell? ⟨b, o, none⟩ = some (.int .i64 k) ∧ w.cell? ⟨b, o + 1, none⟩ = some (.int .i64 n) ∧ w.cell? ⟨b, o + 2, none⟩ = some vb ∧ w.cell? ⟨b, o + 3, none⟩ = some vl

/-- A slice of items, of which each has a property and an encoding. -/
def ItmRow (R : Int → Int → Value → Value → List Int → Prop) (w : World) (v : Value) (ess : List (List Int)) : Prop :=
  ∃ a cap, v = .slice a ess.length cap ∧ ess.length ≤ cap ∧ cap ≤ 9223372036854775807 ∧ (a = none → cap = 0) ∧
    ∀ i, i < ess.length → ∃ b off k n vb vl, a = some ⟨b, off, none⟩ ∧ ItmCells w b (off + i * 4) k n vb vl ∧ R k n vb vl (ess.getD i [])

/-- An integer, or bytes. -/
def Leaf (w : World) (k n : Int) (b l : Value) (es : List Int) : Prop :=
  (k = 1 ∧ b = nilS ∧ l = nilS ∧ es = encInt n) ∨ (k = 2 ∧ n = 0 ∧ l = nilS ∧ ∃ xs, SeqAt .u8 w b xs ∧ xs.length ≤ 1000000 ∧ (∀ x ∈ xs, 0 ≤ x ∧ x ≤ 255) ∧ es = encBytes xs)

/-- An item with so many lists about its leaves at most, and its encoding. -/
def ItmAt (w : World) : Nat → Int → Int → Value → Value → List Int → Prop
  | 0, k, n, b, l, es => Leaf w k n b l es
  | d + 1, k, n, b, l, es => Leaf w k n b l es ∨ (k = 3 ∧ n = 0 ∧ b = nilS ∧ ∃ ess, ess.length ≤ 1000 ∧ ItmRow (ItmAt w d) w l ess ∧ es = encList ess)

theorem ItmCells.up {w w' : World} {b o : Nat} {k n : Int} {vb vl : Value} (h : ItmCells w b o k n vb vl) (hU : Up w w') : ItmCells w' b o k n vb vl := by
  obtain ⟨h1, h2, h3, h4⟩ := h
  exact ⟨by rw [hU.cell (cell_in h1)]; exact h1, by rw [hU.cell (cell_in h1)]; exact h2, by rw [hU.cell (cell_in h1)]; exact h3, by rw [hU.cell (cell_in h1)]; exact h4⟩

theorem ItmRow.up {R R' : Int → Int → Value → Value → List Int → Prop} {w w' : World} {v : Value} {ess : List (List Int)} (h : ItmRow R w v ess) (hU : Up w w') (hR : ∀ k n b l es, R k n b l es → R' k n b l es) : ItmRow R' w' v ess := by
  obtain ⟨a, cap, h1, h2, h3, h4, h5⟩ := h
  refine ⟨a, cap, h1, h2, h3, h4, fun i hi => ?_⟩
  obtain ⟨b, off, k, n, vb, vl, ha, hc, hr⟩ := h5 i hi
  exact ⟨b, off, k, n, vb, vl, ha, hc.up hU, hR _ _ _ _ _ hr⟩

theorem Leaf.up {w w' : World} {k n : Int} {b l : Value} {es : List Int} (h : Leaf w k n b l es) (hU : Up w w') : Leaf w' k n b l es := by
  rcases h with h | ⟨h1, h2, h3, xs, h4, h5⟩
  · exact .inl h
  · exact .inr ⟨h1, h2, h3, xs, h4.up hU, h5⟩

theorem ItmAt.up {w w' : World} (hU : Up w w') : ∀ {d : Nat} {k n : Int} {b l : Value} {es : List Int}, ItmAt w d k n b l es → ItmAt w' d k n b l es
  | 0, _, _, _, _, _, h => Leaf.up h hU
  | _ + 1, _, _, _, _, _, .inl h => .inl (h.up hU)
  | _ + 1, _, _, _, _, _, .inr ⟨h1, h2, h3, ess, h4, h5, h6⟩ => .inr ⟨h1, h2, h3, ess, h4, h5.up hU fun _ _ _ _ _ => ItmAt.up hU, h6⟩

theorem ItmAt.leaf {w : World} {k n : Int} {b l : Value} {es : List Int} (h : Leaf w k n b l es) : ∀ d, ItmAt w d k n b l es
  | 0 => h
  | _ + 1 => .inl h

theorem ItmAt.more {w : World} : ∀ {d : Nat} {k n : Int} {b l : Value} {es : List Int}, ItmAt w d k n b l es → ItmAt w (d + 1) k n b l es
  | 0, _, _, _, _, _, h => .inl h
  | _ + 1, _, _, _, _, _, .inl h => .inl h
  | _ + 1, _, _, _, _, _, .inr ⟨h1, h2, h3, ess, h4, h5, h6⟩ => .inr ⟨h1, h2, h3, ess, h4, h5.up (Up.refl _) fun _ _ _ _ _ => ItmAt.more, h6⟩

theorem itm_int (w : World) (n : Int) (d : Nat) : ItmAt w d 1 n nilS nilS (encInt n) := ItmAt.leaf (.inl ⟨rfl, rfl, rfl, rfl⟩) d
theorem itm_bytes {w : World} {v : Value} {xs : List Int} (h : SeqAt .u8 w v xs) (hl : xs.length ≤ 1000000) (hB : ∀ x ∈ xs, 0 ≤ x ∧ x ≤ 255) (d : Nat) : ItmAt w d 2 0 v nilS (encBytes xs) :=
  ItmAt.leaf (.inr ⟨rfl, rfl, rfl, xs, h, hl, hB, rfl⟩) d
theorem itm_list {w : World} {v : Value} {ess : List (List Int)} {d : Nat} (h : ItmRow (ItmAt w d) w v ess) (hl : ess.length ≤ 1000) : ItmAt w (d + 1) 3 0 nilS v (encList ess) := .inr ⟨rfl, rfl, rfl, ess, hl, h, rfl⟩

/-- What writes as far as 16384 bytes. -/
def Wrote (xs es ys : List Int) : Prop := (xs.length + es.length ≤ 16384 → ys = xs ++ es) ∧ (16384 < xs.length + es.length → 16384 < ys.length) ∧ ys.length ≤ xs.length + es.length

theorem Wrote.full {xs : List Int} (es : List Int) (h : 16384 < xs.length) : Wrote xs es xs := ⟨fun h' => by omega, fun _ => h, by omega⟩
theorem Wrote.all (xs es : List Int) : Wrote xs es (xs ++ es) := ⟨fun _ => rfl, fun h => by rw [List.length_append]; exact h, by rw [List.length_append]; omega⟩
theorem Wrote.next {xs a ys b zs : List Int} (h : Wrote xs a ys) (k : Wrote ys b zs) : Wrote xs (a ++ b) zs := by
  obtain ⟨h1, h2, h3⟩ := h
  obtain ⟨k1, k2, k3⟩ := k
  rw [Wrote, List.length_append]
  refine ⟨fun hl => ?_, fun hl => ?_, by omega⟩
  · have e1 := h1 (by omega)
    rw [k1 (by rw [e1, List.length_append]; omega), e1, List.append_assoc]
  · by_cases hx : xs.length + a.length ≤ 16384
    · have e1 := h1 hx
      exact k2 (by rw [e1, List.length_append]; omega)
    · have := h2 (by omega)
      exact k2 (by omega)

theorem flatten_take {ess : List (List Int)} {i : Nat} (hi : i < ess.length) : (ess.take (i + 1)).flatten = (ess.take i).flatten ++ ess.getD i [] := by
  rw [List.take_succ_eq_append_getElem hi, List.flatten_append]
  simp [hi]
theorem flatten_take_le (ess : List (List Int)) (i : Nat) : (ess.take i).flatten.length ≤ ess.flatten.length := by
  have : ess.flatten = (ess.take i).flatten ++ (ess.drop i).flatten := by rw [← List.flatten_append, List.take_append_drop]
  rw [this, List.length_append]
  omega
theorem flatten_at_le {ess : List (List Int)} {i : Nat} (hi : i < ess.length) : (ess.take i).flatten.length + (ess.getD i []).length ≤ ess.flatten.length := by
  have h := flatten_take_le ess (i + 1)
  rw [flatten_take hi, List.length_append] at h
  exact h

/-- The four cells of an item. -/
structure Quad where
  (k n : Int)
  (b l : Value)
def Quad.cells (q : Quad) : List Value := [.int .i64 q.k, .int .i64 q.n, q.b, q.l]
/-- The items are the call's own. -/
def OwnQ (e : TypeId) (w : World) (base : Nat) (v : Value) (qs : List Quad) : Prop := w.ownsRow base e 4 v qs.length (qs.flatMap Quad.cells)
/-- Each of the items has its encoding. -/
def QuadAt (w : World) (d : Nat) (qs : List Quad) (ess : List (List Int)) : Prop := qs.length = ess.length ∧ ∀ i (h : i < qs.length), ItmAt w d qs[i].k qs[i].n qs[i].b qs[i].l (ess.getD i [])

theorem quads_at (qs : List Quad) (i j : Nat) (h : i < qs.length) (hj : j < 4) : (qs.flatMap Quad.cells)[i * 4 + j]? = (qs[i].cells)[j]? := by
  induction qs generalizing i with
  | nil => simp at h
  | cons q qs ih =>
    rw [List.flatMap_cons]
    have hl : q.cells.length = 4 := rfl
    cases i with
    | zero =>
      rw [List.getElem?_append_left (by omega)]
      simp
    | succ i =>
      rw [List.getElem?_append_right (by omega), hl, show (i + 1) * 4 + j - 4 = i * 4 + j by omega, ih i (by simpa using h)]
      simp
theorem quads_length (qs : List Quad) : (qs.flatMap Quad.cells).length = qs.length * 4 := by
  induction qs with
  | nil => rfl
  | cons q qs ih =>
    rw [List.flatMap_cons, List.length_append, ih, List.length_cons]
    have hl : q.cells.length = 4 := rfl
    omega

theorem ownQ_none {e : TypeId} {w : World} {base : Nat} : OwnQ e w base nilS [] := ⟨by simp, .inl ⟨rfl, rfl⟩⟩

theorem OwnQ.row {e : TypeId} {w : World} {base : Nat} {v : Value} {qs : List Quad} {d : Nat} {ess : List (List Int)} (h : OwnQ e w base v qs) (hq : QuadAt w d qs ess) : ItmRow (ItmAt w d) w v ess := by
  obtain ⟨hlen, hq⟩ := hq
  have hh := h
  rcases h.2 with ⟨hv, hn⟩ | ⟨g, cap, cur, rfl, hb, hg, hn, hm, hs, ht⟩
  · exact ⟨none, 0, by rw [hv, ← hlen, hn], by omega, by omega, fun _ => rfl, fun i hi => by omega⟩
  · refine ⟨_, cap, by rw [hlen], by omega, by unfold maxLen at hm; omega, (fun h => by cases h), fun i hi => ?_⟩
    have hi' : i < qs.length := by omega
    have hc : ∀ j, j < 4 → w.cell? ⟨g, 0 + i * 4 + j, none⟩ = qs[i].cells[j]? := fun j hj => by
      rw [← quads_at qs i j hi' hj, Nat.zero_add]
      exact World.ownsRow.cellAt hh (i * 4 + j) (by omega)
    refine ⟨g, 0, qs[i].k, qs[i].n, qs[i].b, qs[i].l, rfl, ⟨by rw [show 0 + i * 4 = 0 + i * 4 + 0 from rfl, hc 0 (by omega)]; rfl, by rw [hc 1 (by omega)]; rfl, by rw [hc 2 (by omega)]; rfl, by rw [hc 3 (by omega)]; rfl⟩, hq i hi'⟩

theorem Leaf.one {w : World} {k n : Int} {b l : Value} {es : List Int} (h : Leaf w k n b l es) : b.oneCell' = true ∧ l.oneCell' = true := by
  rcases h with ⟨_, rfl, rfl, _⟩ | ⟨_, _, rfl, xs, h, _⟩
  · exact ⟨rfl, rfl⟩
  · obtain ⟨a, cap, rfl, _⟩ := h
    exact ⟨rfl, rfl⟩
theorem ItmAt.one {w : World} : ∀ {d : Nat} {k n : Int} {b l : Value} {es : List Int}, ItmAt w d k n b l es → b.oneCell' = true ∧ l.oneCell' = true
  | 0, _, _, _, _, _, h => Leaf.one h
  | _ + 1, _, _, _, _, _, .inl h => h.one
  | _ + 1, _, _, _, _, _, .inr ⟨_, _, h, ess, _, h5, _⟩ => by
    obtain ⟨a, cap, rfl, _⟩ := h5
    subst h
    exact ⟨rfl, rfl⟩

/-- append(l, more...) onto the call's own items: at the operation of a walk. -/
theorem wp_appQ {P : Program} {e t : TypeId} {z : Value} {bytes : Nat} (hI : (P.info? e).map (fun i => (i.zero, i.size, i.bytes)) = some (some z, 4, bytes)) (hz : z.cells.size = 4) (ht : P.underlying t = some (.slice e)) (hby : bytes ≤ 64)
    {ops : Array Oper} {rest : List Oper} {o : Oper} {a : Act} {w : World} {Q : Exit → Act → World → Prop} (hgd : o.guard = none) (s x : Operand)
    (ho : o.op = .call { callee := .builtin .append, args := #[s, x], argTypes := #[t, t] })
    (base : Nat) {v : Value} {qs news : List Quad} (hs : a.eval s = v) (hown : OwnQ e w base v qs) (g c : Nat) (hx : a.eval x = .slice (some ⟨g, 0, none⟩) news.length c)
    (hblk : ∀ i (h : i < news.length), ItmCells w g (i * 4) news[i].k news[i].n news[i].b news[i].l) (hone : ∀ i (h : i < news.length), news[i].b.oneCell' = true ∧ news[i].l.oneCell' = true)
    (hroom : qs.length + news.length ≤ 1000000) (hbase : base ≤ w.heap.size)
    (h : ∀ v' w', OwnQ e w' base v' (qs ++ news) → w.grownBy w' v.ownBlock → wpList P ops Q rest (a.put o.dst v') w') : wpList P ops Q (o :: rest) a w := by
  obtain ⟨i0, hi, hz0, hz1, hz2⟩ := info_parts hI
  refine wpList_append_own w hgd s x t ho base e i0 z 4 bytes ht hi hz0 hz1 hz2 hz (by decide) v qs.length _ hs hown ⟨g, 0, none⟩ news.length c (news.flatMap Quad.cells) hx (quads_length _) (fun j u hj => ?_) (fun u hu => ?_) (by unfold maxLen; omega) (by
      have := Nat.mul_le_mul hroom hby
      omega) hbase fun v' w' h1 h2 _ => h v' w' (by
        unfold OwnQ
        rw [List.length_append, List.flatMap_append]
        exact h1) h2
  · have hj2 : j < news.length * 4 := by
      have := (List.getElem?_eq_some_iff.1 hj).1
      rw [quads_length] at this
      exact this
    rw [Addr.add_lit, Nat.zero_add]
    obtain ⟨c0, c1, c2, c3⟩ := hblk (j / 4) (by omega)
    have hq := quads_at news (j / 4) (j % 4) (by omega) (by omega)
    rw [show j / 4 * 4 + j % 4 = j by omega, hj] at hq
    have hr : j % 4 = 0 ∨ j % 4 = 1 ∨ j % 4 = 2 ∨ j % 4 = 3 := by omega
    rw [show j = j / 4 * 4 + j % 4 by omega]
    rcases hr with hr | hr | hr | hr <;> rw [hr] at hq ⊢ <;> simp only [Quad.cells, List.getElem?_cons_zero, List.getElem?_cons_succ] at hq
    · rw [hq]; exact c0
    · rw [hq]; exact c1
    · rw [hq]; exact c2
    · rw [hq]; exact c3
  · obtain ⟨q, hq, hu⟩ := List.mem_flatMap.1 hu
    obtain ⟨i, hi, rfl⟩ := List.getElem_of_mem hq
    obtain ⟨o1, o2⟩ := hone i hi
    simp only [Quad.cells, List.mem_cons, List.not_mem_nil, or_false] at hu
    rcases hu with rfl | rfl | rfl | rfl
    · rfl
    · rfl
    · exact o1
    · exact o2

theorem QuadAt.nil (w : World) (d : Nat) : QuadAt w d [] [] := ⟨rfl, fun i h => by simp at h⟩
theorem QuadAt.app {w : World} {d : Nat} {qs rs : List Quad} {es fs : List (List Int)} (h : QuadAt w d qs es) (k : QuadAt w d rs fs) : QuadAt w d (qs ++ rs) (es ++ fs) := by
  refine ⟨by rw [List.length_append, List.length_append, h.1, k.1], fun i hi => ?_⟩
  rw [List.length_append] at hi
  by_cases h1 : i < qs.length
  · rw [List.getElem_append_left h1, List.getD_eq_getElem?_getD, List.getElem?_append_left (by have := h.1; omega), ← List.getD_eq_getElem?_getD]
    exact h.2 i h1
  · rw [List.getElem_append_right (by omega), List.getD_eq_getElem?_getD, List.getElem?_append_right (by have := h.1; omega), ← List.getD_eq_getElem?_getD, ← h.1]
    exact k.2 (i - qs.length) (by omega)
theorem QuadAt.one {w : World} {d : Nat} {q : Quad} {es : List Int} (h : ItmAt w d q.k q.n q.b q.l es) : QuadAt w d [q] [es] :=
  ⟨rfl, fun i hi => by
    obtain rfl : i = 0 := by simp at hi; omega
    exact h⟩

theorem OwnQ.up {e : TypeId} {w w' : World} {base : Nat} {v : Value} {qs : List Quad} (h : OwnQ e w base v qs) (hU : Up w w') : OwnQ e w' base v qs := ownsRow_later h hU
theorem QuadAt.up {w w' : World} {d : Nat} {qs : List Quad} {ess : List (List Int)} (h : QuadAt w d qs ess) (hU : Up w w') : QuadAt w' d qs ess := ⟨h.1, fun i hi => (h.2 i hi).up hU⟩
theorem OwnQ.block {e : TypeId} {w : World} {base : Nat} {v : Value} {qs : List Quad} (h : OwnQ e w base v qs) (j : Nat) (hj : v.ownBlock = some j) : base ≤ j := by
  rcases h.2 with ⟨hv, _⟩ | ⟨g, cap, cur, rfl, hb, _⟩
  · rw [hv] at hj; cases hj
  · simp [Value.ownBlock] at hj; omega
theorem OwnQ.shape {e : TypeId} {w : World} {base : Nat} {v : Value} {qs : List Quad} (h : OwnQ e w base v qs) : ∃ a c, v = .slice a qs.length c := by
  rcases h.2 with ⟨hv, hn⟩ | ⟨g, cap, cur, rfl, _⟩
  · exact ⟨none, 0, by rw [hv, hn]⟩
  · exact ⟨_, _, rfl⟩
theorem OwnQ.below {e : TypeId} {w w' : World} {base : Nat} {v : Value} {qs : List Quad} (h : OwnQ e w base v qs) (hg : w.grownBy w' v.ownBlock) (hb : base ≤ w.heap.size) : Below base w w' := Below.grown (Below.refl base w) hg hb fun j hj => h.block j hj

/-- append(l, more...) onto the call's own items: at the operation. -/
theorem op_appQ {P : Program} {e t : TypeId} {z : Value} {bytes : Nat} (hI : (P.info? e).map (fun i => (i.zero, i.size, i.bytes)) = some (some z, 4, bytes)) (hz : z.cells.size = 4) (ht : P.underlying t = some (.slice e)) (hby : bytes ≤ 64)
    {o : Oper} {a : Act} {w : World} {K : Act → World → Prop} {Q : Exit → Act → World → Prop} (s x : Operand)
    (ho : o.op = .call { callee := .builtin .append, args := #[s, x], argTypes := #[t, t] })
    (base : Nat) {v : Value} {qs news : List Quad} (hs : a.eval s = v) (hown : OwnQ e w base v qs) (g c : Nat) (hx : a.eval x = .slice (some ⟨g, 0, none⟩) news.length c)
    (hblk : ∀ i (h : i < news.length), ItmCells w g (i * 4) news[i].k news[i].n news[i].b news[i].l) (hone : ∀ i (h : i < news.length), news[i].b.oneCell' = true ∧ news[i].l.oneCell' = true)
    (hroom : qs.length + news.length ≤ 1000000) (hbase : base ≤ w.heap.size)
    (h : ∀ v' w', OwnQ e w' base v' (qs ++ news) → w.grownBy w' v.ownBlock → K (a.put o.dst v') w') : o.wp P a w K Q := by
  obtain ⟨i0, hi, hz0, hz1, hz2⟩ := info_parts hI
  refine wp_append_own w s x t ho base e i0 z 4 bytes ht hi hz0 hz1 hz2 hz (by decide) v qs.length _ hs hown ⟨g, 0, none⟩ news.length c (news.flatMap Quad.cells) hx (quads_length _) (fun j u hj => ?_) (fun u hu => ?_) (by unfold maxLen; omega) (by
      have := Nat.mul_le_mul hroom hby
      omega) hbase fun v' w' h1 h2 _ => h v' w' (by
        unfold OwnQ
        rw [List.length_append, List.flatMap_append]
        exact h1) h2
  · have hj2 : j < news.length * 4 := by
      have := (List.getElem?_eq_some_iff.1 hj).1
      rw [quads_length] at this
      exact this
    rw [Addr.add_lit, Nat.zero_add]
    obtain ⟨c0, c1, c2, c3⟩ := hblk (j / 4) (by omega)
    have hq := quads_at news (j / 4) (j % 4) (by omega) (by omega)
    rw [show j / 4 * 4 + j % 4 = j by omega, hj] at hq
    have hr : j % 4 = 0 ∨ j % 4 = 1 ∨ j % 4 = 2 ∨ j % 4 = 3 := by omega
    rw [show j = j / 4 * 4 + j % 4 by omega]
    rcases hr with hr | hr | hr | hr <;> rw [hr] at hq ⊢ <;> simp only [Quad.cells, List.getElem?_cons_zero, List.getElem?_cons_succ] at hq
    · rw [hq]; exact c0
    · rw [hq]; exact c1
    · rw [hq]; exact c2
    · rw [hq]; exact c3
  · obtain ⟨q, hq, hu⟩ := List.mem_flatMap.1 hu
    obtain ⟨i, hi, rfl⟩ := List.getElem_of_mem hq
    obtain ⟨o1, o2⟩ := hone i hi
    simp only [Quad.cells, List.mem_cons, List.not_mem_nil, or_false] at hu
    rcases hu with rfl | rfl | rfl | rfl
    · rfl
    · rfl
    · exact o1
    · exact o2

/-- The same at a step of a region that draws its order. -/
theorem step_appQ {P : Program} {e t : TypeId} {z : Value} {bytes : Nat} (hI : (P.info? e).map (fun i => (i.zero, i.size, i.bytes)) = some (some z, 4, bytes)) (hz : z.cells.size = 4) (ht : P.underlying t = some (.slice e)) (hby : bytes ≤ 64)
    {ops : Array Oper} {o : Oper} {a : Act} {w : World} {K : Act → World → Prop} {Q : Exit → Act → World → Prop} {E : Prop} (hgd : o.guard = none) (s x : Operand)
    (ho : o.op = .call { callee := .builtin .append, args := #[s, x], argTypes := #[t, t] })
    (base : Nat) {v : Value} {qs news : List Quad} (hs : a.eval s = v) (hown : OwnQ e w base v qs) (g c : Nat) (hx : a.eval x = .slice (some ⟨g, 0, none⟩) news.length c)
    (hblk : ∀ i (h : i < news.length), ItmCells w g (i * 4) news[i].k news[i].n news[i].b news[i].l) (hone : ∀ i (h : i < news.length), news[i].b.oneCell' = true ∧ news[i].l.oneCell' = true)
    (hroom : qs.length + news.length ≤ 1000000) (hbase : base ≤ w.heap.size)
    (h : ∀ v' w', OwnQ e w' base v' (qs ++ news) → w.grownBy w' v.ownBlock → K (a.put o.dst v') w') : if Region.wanted o (yielded ops a.tmps) = true then Oper.wp P o a w K Q else E := by
  have hw : Region.wanted o (yielded ops a.tmps) = true := by simp [Region.wanted, hgd]
  rw [if_pos hw]
  exact op_appQ hI hz ht hby s x ho base hs hown g c hx hblk hone hroom hbase h

theorem itm_new {w : World} {g : Nat} {k n : Int} {b l : Value} {t : TypeId} (hg : w.heap.size = g) : ItmCells (w.alloc (.cells #[.int .i64 k, .int .i64 n, b, l] t)) g 0 k n b l := by
  have h : Blk (w.alloc (.cells #[.int .i64 k, .int .i64 n, b, l] t)) g t #[.int .i64 k, .int .i64 n, b, l] := Blk.new hg rfl
  exact ⟨h.val rfl, h.val rfl, h.val rfl, h.val rfl⟩

theorem OwnQ.set {e : TypeId} {w : World} {base : Nat} {v : Value} {qs : List Quad} (h : OwnQ e w base v qs) {a : Addr} (ha : a.block < base) (x : Value) : OwnQ e (w.setCell a x) base v qs := by
  refine ⟨h.1, ?_⟩
  rcases h.2 with hn | ⟨g, cap, cur, rfl, hb, hg, rest⟩
  · exact .inl hn
  · exact .inr ⟨g, cap, cur, rfl, hb, by rw [Below.heap_setCell w a x g (by omega)]; exact hg, rest⟩
end Go.Sp
