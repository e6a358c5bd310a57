/- Package draw: errors, results. Package prime: Is. The tables that it reads are the program's variables. Package specieref01: the same arithmetic. Package specieref05: Is, below 2^61: the same test. Package group and specieref10: validity and membership. -/
import Derived.Test.YtkimojconidhlaaDoorMB6
import Derived.Test.YtkimojconidhlaaDoorMB5
import Derived.Laws.Rows
namespace Go.Proofs.YtkimojconidhlaaDoor
open Go.RowKit Go.Sp
set_option maxHeartbeats 2000000
set_option maxRecDepth 20000

theorem built_src (h : Nat → Int) (c : Int) : Tryd.prog.built 120 [(0, .agg (drwA h c))] = some (srcA h c false) := by kernel_rfl
theorem built_seed (h : Nat → Int) : Tryd.prog.built 30 [(0, .agg (arrK .u8 h 32))] = some (drwA h 0) := by kernel_rfl
theorem built_none : Tryd.prog.built 30 [] = some (drwA zeroH 0) := by kernel_rfl
theorem zero33 : #[.int .u8 0, .int .u8 0, .int .u8 0, .int .u8 0, .int .u8 0, .int .u8 0, .int .u8 0, .int .u8 0, .int .u8 0, .int .u8 0, .int .u8 0, .int .u8 0, .int .u8 0, .int .u8 0, .int .u8 0, .int .u8 0,
    .int .u8 0, .int .u8 0, .int .u8 0, .int .u8 0, .int .u8 0, .int .u8 0, .int .u8 0, .int .u8 0, .int .u8 0, .int .u8 0, .int .u8 0, .int .u8 0, .int .u8 0, .int .u8 0, .int .u8 0, .int .u8 0, .int .i64 0] = drwA zeroH 0 := by kernel_rfl
theorem sizeDrw (h : Nat → Int) (c : Int) : (Tryd.prog.info? 30).map (·.size) = some (drwA h c).size := by rw [drwA_size]; kernel_rfl
theorem sizeSrc (h : Nat → Int) (c : Int) (f : Bool) : (Tryd.prog.info? 120).map (·.size) = some (srcA h c f).size := by rw [srcA_size]; kernel_rfl

/-- The error of a source and a number in a range. -/
def chkE (c n lo hi : Int) : Int := if dvB c = true then (if lo ≤ n ∧ n ≤ hi then 0 else 2) else 1

theorem check_draw_any (h : Nat → Int) (c n lo hi : Int) (w : World) : Calls Tryd.prog 58 #[drw h c, .int .i64 n, .int .i64 lo, .int .i64 hi] w fun e w' => e = .returned (.int .i64 (chkE c n lo hi)) ∧ Up w w' := by
  have HV := hid (fun w' => draValid_any h c w')
  have HE : Hid (chkE c n lo hi = if dvB c = true then (if lo ≤ n ∧ n ≤ hi then 0 else 2) else 1) := hid rfl
  have HS := hid (sizeDrw h c)
  unfold drw at HV ⊢
  generalize chkE c n lo hi = E at *
  generalize drwA h c = cs at *
  go_enter Tryd.func58, Tryd.ntmps58
  go_wp2_with (refine wpList_load_row rfl 30 _ rfl w.heap.size rfl 30 cs (0, 0) _ (Blk.new rfl rfl) Tryd.underlying30 rfl HS.out ?_)
  refine (HV.out _).mono ?_
  rintro e w1 ⟨rfl, hU1⟩
  have HU1 := hid (((Up.refl w).alloc _).trans hU1)
  clear hU1
  by_cases hd : dvB c = true
  · have Hd := hid hd
    rw [hd]
    clear hd
    by_cases h1 : n < lo
    · have d1 : decide (n < lo) = true := by simpa using h1
      have hr : E = 2 := by rw [HE.out, if_pos Hd.out, if_neg (by omega)]
      subst hr
      clear h1
      go_wp2
      go_ret
      exact ⟨rfl, HU1.out⟩
    · have d1 : decide (n < lo) = false := by simpa using h1
      by_cases h2 : n > hi
      · have d2 : decide (n > hi) = true := by simpa using h2
        have hr : E = 2 := by rw [HE.out, if_pos Hd.out, if_neg (by omega)]
        subst hr
        clear h1 h2
        go_wp2
        go_ret
        exact ⟨rfl, HU1.out⟩
      · have d2 : decide (n > hi) = false := by simpa using h2
        have hr : E = 0 := by rw [HE.out, if_pos Hd.out, if_pos (by omega)]
        subst hr
        clear h1 h2
        go_wp2
        go_ret
        exact ⟨rfl, HU1.out⟩
  · have hd' : dvB c = false := by simpa using hd
    have hr : E = 1 := by rw [HE.out, if_neg hd]
    subst hr
    rw [hd']
    clear hd hd'
    go_wp2
    go_ret
    exact ⟨rfl, HU1.out⟩

theorem result_any (h : Nat → Int) (c : Int) (f : Bool) (b : Nat) (w : World) (hb : Blk w b 120 (srcA h c f)) :
    Calls Tryd.prog 65 #[.pointer (some ⟨b, 0, none⟩)] w fun e w' => e = .returned (.tuple #[bif f then drw zeroH 0 else drw h c, .int .i64 (bif f then 5 else 0)]) ∧ Up w w' := by
  have f0 := hb.val (srcA_full h c f)
  have l0 := hb.lt
  have HBk := hid hb
  have hsd : (Tryd.prog.info? 30).map (·.size) = some (drwA h c).toList.length := by rw [Array.length_toList]; exact sizeDrw h c
  cases f with
  | true =>
    clear hb hsd
    go_enter Tryd.func65, Tryd.ntmps65
    go_wp2_with (refine wpList_store_rowTo rfl 30 _ _ rfl rfl w.heap.size (drwA zeroH 0) ?_ ?_ 30 (drwA zeroH 0) ?_ ?_ ?_ ?_ ?_)
    · rfl
    · exact (congrArg Value.agg zero33)
    · exact Blk.new rfl zero33
    · exact sizeDrw _ _
    · rfl
    · exact drwA_one _ _
    refine bodyPost_ret (v := .tuple #[.agg (drwA zeroH 0), .int .i64 5]) (results_row_tmp Tryd.results65 _ _ w.heap.size 30 _ (0, 0) _ (by rfl) ((Blk.new (cs' := drwA zeroH 0) rfl zero33).row _) Tryd.underlying30 rfl (sizeDrw _ _)) rfl ⟨rfl, ((Up.refl w).alloc _).setRow (Nat.le_refl _) _⟩
  | false =>
    clear hb
    go_enter Tryd.func65, Tryd.ntmps65
    go_wp2_with (first
      | (refine wpList_load_mid rfl 30 _ rfl b 0 rfl (drwA h c).toList _ (src_drw (HBk.out.alloc _)) Tryd.underlying30 rfl hsd ?_; rw [Array.toArray_toList])
      | (refine wpList_store_rowTo rfl 30 _ _ rfl rfl _ _ rfl rfl 30 _ (heap_alloc_new _ _) (sizeDrw _ _) (by rw [drwA_size]; rfl) (drwA_one _ _) ?_; rw [World.setRow_alloc_new]))
    refine bodyPost_ret (v := .tuple #[.agg (drwA h c), .int .i64 0]) (results_row_tmp Tryd.results65 _ _ w.heap.size 30 _ (0, 0) _ (by rfl) (Blk.new rfl rfl) Tryd.underlying30 rfl (sizeDrw _ _)) rfl ⟨rfl, (Up.refl w).alloc _⟩
end Go.Proofs.YtkimojconidhlaaDoor
namespace Go.Proofs.YtkimojconidhlaaDoor
open Go.RowKit Go.Sp
set_option maxHeartbeats 400000

def basesCells : Array Value := #[.int .u64 2, .int .u64 3, .int .u64 5, .int .u64 7, .int .u64 11, .int .u64 13, .int .u64 17, .int .u64 19, .int .u64 23, .int .u64 29, .int .u64 31, .int .u64 37]

/-- The variables hold what the program's text lays. -/
def Tab (w : World) : Prop :=
  (∃ t fr, w.heap[1]? = some (.cells basesCells t fr)) ∧ ∀ i, i < 64 → w.cell? ⟨3, i, none⟩ = some (.int .u8 (Lib.deBruijn64tab.getD i 0))

theorem Tab.up {w w' : World} (h : Tab w) (hU : Up w w') : Tab w' := by
  obtain ⟨⟨t, fr, h1⟩, h2⟩ := h
  have s1 : 1 < w.heap.size := (Array.getElem?_eq_some_iff.1 h1).1
  have s2 : 3 < w.heap.size := by
    have := h2 0 (by omega)
    unfold World.cell? at this
    split at this
    · rename_i h3; exact (Array.getElem?_eq_some_iff.1 h3).1
    · cases this
  exact ⟨⟨t, fr, by rw [hU.block s1]; exact h1⟩, fun i hi => by rw [hU.cell s2]; exact h2 i hi⟩

theorem tz64_core (x k idx : Nat) (w : World) (hx0 : ((x : Int) == 0) = false)
    (key : IntKind.u64.wrap (bits BinOp.and IntKind.u64 (x : Int) (IntKind.u64.wrap (-(x : Int))) * 285870213051353865) / 288230376151711744 = (idx : Int))
    (hi : idx < 64) (hk : k < 64) (hcell : w.cell? ⟨3, idx, none⟩ = some (.int .u8 k)) :
    Calls Tryd.prog 84 #[.int .u64 x] w fun e w' => e = .returned (.int .i64 k) ∧ w = w' := by
  go_enter Tryd.func84, Tryd.ntmps84
  go_wp2_with (simp only [key])
  go_ret
  exact ⟨rfl, rfl⟩

theorem tz64_key (x a : Nat) (hx : x < 18446744073709551616) (hx0 : x ≠ 0) (hlow : x &&& (18446744073709551616 - x) = a) :
    IntKind.u64.wrap (bits BinOp.and IntKind.u64 (x : Int) (IntKind.u64.wrap (-(x : Int))) * 285870213051353865) / 288230376151711744 = ((a * 285870213051353865 % 18446744073709551616 / 288230376151711744 : Nat) : Int) := by
  have e1 : IntKind.u64.wrap (-(x : Int)) = ((18446744073709551616 - x : Nat) : Int) := by rw [IntKind.wrap_u64]; omega
  rw [e1, bits_and_u64_nat x _ hx (by omega), hlow, IntKind.wrap_u64]
  omega

theorem tz64_any (x : Nat) (hx0 : x ≠ 0) (hx : x < 18446744073709551616) (w : World) (hT : Tab w) :
    Calls Tryd.prog 84 #[.int .u64 x] w fun e w' => e = .returned (.int .i64 (Lib.ctz 64 x)) ∧ w = w' := by
  obtain ⟨hlow, hk⟩ := Lib.lowest_bit 64 x hx0 hx
  obtain ⟨hi, htab⟩ := Lib.deBruijn64_at _ hk
  have hcell := hT.2 _ hi
  rw [htab] at hcell
  exact tz64_core x _ _ w (by simp; omega) (tz64_key x _ hx hx0 hlow) hi hk hcell

/-- The product modulo n. -/
theorem pmul_any (a b n : Int) (w : World) (h0 : 0 ≤ a) (h1 : a < n) (h2 : 0 ≤ b) (h3 : b < n) (h4 : n ≤ 9223372036854775807) :
    Calls Tryd.prog 96 #[.int .u64 a, .int .u64 b, .int .u64 n] w fun e w' => e = .returned (.int .u64 (a * b % n)) ∧ Up w w' := by
  have p0 : 0 ≤ a * b := Int.mul_nonneg h0 h2
  have p1 : a * b < n * 18446744073709551616 := by
    have : a * b ≤ n * b := Int.mul_le_mul_of_nonneg_right (by omega) h2
    have : n * b ≤ n * 9223372036854775807 := Int.mul_le_mul_of_nonneg_left (by omega) (by omega)
    omega
  have e1 : a * b / 18446744073709551616 * 18446744073709551616 + a * b % 18446744073709551616 = a * b := by omega
  have E1 := hid e1
  have q1 : a * b / 18446744073709551616 < n := by omega
  have q0 : 0 ≤ a * b / 18446744073709551616 := by omega
  have r0 : 0 ≤ a * b % 18446744073709551616 := by omega
  have r1 : a * b % 18446744073709551616 ≤ 18446744073709551615 := by omega
  have s0 : 0 ≤ a * b % n := Int.emod_nonneg _ (by omega)
  have s1 : a * b % n < n := Int.emod_lt_of_pos _ (by omega)
  clear e1 p0 p1
  generalize hX : a * b / 18446744073709551616 = X at *
  generalize hY : a * b % 18446744073709551616 = Y at *
  have HX := hid hX
  have HY := hid hY
  clear hX hY
  go_enter Tryd.func96, Tryd.ntmps96
  go_wp2_with fail
  refine (mul64_any a b h0 (by omega) h2 (by omega) _).mono ?_
  rintro e w' ⟨rfl, rfl⟩
  rw [HX.out, HY.out]
  go_wp2_with fail
  refine (div64_any X Y n q0 q1 r0 r1 (by omega) _).mono ?_
  rintro e w' ⟨rfl, hU⟩
  rw [E1.out]
  go_wp2
  go_ret
  exact ⟨rfl, hU⟩

theorem ppow_any (a n : Int) (e : Nat) (w : World) (h0 : 0 ≤ a) (h1 : a < n) (h3 : e ≤ 9223372036854775807) (hn : 2 ≤ n) (h4 : n ≤ 9223372036854775807) :
    Calls Tryd.prog 95 #[.int .u64 a, .int .u64 e, .int .u64 n] w fun r w' => r = .returned (.int .u64 (pw a e n)) ∧ Up w w' := by
  go_enter Tryd.func95, Tryd.ntmps95
  go_wp2_with fail
  go_loopw [0, 1, 7] (fun va ve vx wr => ∃ (a' : Int) (k : Nat) (x : Int), va = .int .u64 a' ∧ ve = .int .u64 k ∧ vx = .int .u64 x ∧ 0 ≤ a' ∧ a' < n ∧ 0 ≤ x ∧ x < n ∧ k ≤ 9223372036854775807 ∧ x * a' ^ k % n = pw a e n ∧ Up w wr) (fun _ ve _ _ => (intOf ve).toNat)
  case atStart => exact ⟨a, e, 1, rfl, rfl, rfl, h0, h1, by omega, by omega, h3, by rw [Int.one_mul]; rfl, Up.refl w⟩
  case round =>
    obtain ⟨a', k, x, rfl, rfl, rfl, a0, a1, x0, x1, k1, hI, hU⟩ := hrel
    have HI := hid hI
    clear hI
    have p0 : 0 ≤ a' * a' % n := Int.emod_nonneg _ (by omega)
    have p1 : a' * a' % n < n := Int.emod_lt_of_pos _ (by omega)
    have q0 : 0 ≤ x * a' % n := Int.emod_nonneg _ (by omega)
    have q1 : x * a' % n < n := Int.emod_lt_of_pos _ (by omega)
    by_cases hk : 0 < k
    · have hk2 : decide (0 < k) = true := by simpa using hk
      have hb : bits .and .u64 (k : Int) 1 = (k : Int) % 2 := and_one_u64 _ (by omega) (by omega)
      by_cases ho : k % 2 = 1
      · have ho2 : ((k : Int) % 2 == 1) = true := by simp; omega
        have HO := hid ho
        clear ho
        go_wp2_with fail
        refine (pmul_any x a' n _ x0 x1 a0 a1 h4).mono ?_
        rintro r w1 ⟨rfl, hU1⟩
        go_wp2_with fail
        refine (pmul_any a' a' n _ a0 a1 a0 a1 h4).mono ?_
        rintro r w2 ⟨rfl, hU2⟩
        go_wp2_with fail
        go_roundw
        case rel => exact ⟨_, k / 2, _, rfl, by simp, rfl, p0, p1, q0, q1, by omega, by rw [round_odd _ _ _ _ HO.out, HI.out], (hU.trans hU1).trans hU2⟩
        case measure => simp [intOf]; omega
      · have ho2 : ((k : Int) % 2 == 1) = false := by simp; omega
        have HO := hid (show k % 2 = 0 by omega)
        clear ho
        go_wp2_with fail
        refine (pmul_any a' a' n _ a0 a1 a0 a1 h4).mono ?_
        rintro r w2 ⟨rfl, hU2⟩
        go_wp2_with fail
        go_roundw
        case rel => exact ⟨_, k / 2, _, rfl, by simp, rfl, p0, p1, x0, x1, by omega, by rw [round_even _ _ _ _ HO.out, HI.out], hU.trans hU2⟩
        case measure => simp [intOf]; omega
    · have hk0 : k = 0 := by omega
      subst hk0
      go_wp2
      go_ret
      refine ⟨?_, hU⟩
      rw [← HI.out]
      simp [Int.emod_eq_of_lt x0 x1]

theorem composite_any (a n : Int) (d s : Nat) (w : World) (h0 : 0 ≤ a) (h1 : a < n) (h3 : d ≤ 9223372036854775807) (hs : s ≤ 64) (hn : 2 ≤ n) (h4 : n ≤ 9223372036854775807) :
    Calls Tryd.prog 85 #[.int .u64 a, .int .u64 n, .int .u64 d, .int .i64 s] w fun r w' => r = .returned (.bool (!strongB n a d s)) ∧ Up w w' := by
  have x0 := pw_nonneg a d (show 0 < n by omega)
  have x1 := pw_lt a d (show 0 < n by omega)
  have HB : Hid (strongB n a d s = (pw a d n == 1 || pw a d n == n - 1 || sqs n (pw a d n) (s - 1))) := hid rfl
  have HP := hid (ppow_any a n d · h0 h1 h3 hn h4)
  generalize pw a d n = x at *
  generalize strongB n a d s = B at *
  by_cases t1 : (x == 1) = true
  · have hB : B = true := by rw [HB.out, t1]; rfl
    subst hB
    go_enter Tryd.func85, Tryd.ntmps85
    go_wp2_with fail
    refine (HP.out _).mono ?_
    rintro r w1 ⟨rfl, hU1⟩
    go_wp2
    go_ret
    exact ⟨rfl, hU1⟩
  · have t1 : (x == 1) = false := by simpa using t1
    by_cases t2 : (x == n - 1) = true
    · have hB : B = true := by rw [HB.out, t2]; simp
      subst hB
      go_enter Tryd.func85, Tryd.ntmps85
      go_wp2_with fail
      refine (HP.out _).mono ?_
      rintro r w1 ⟨rfl, hU1⟩
      go_wp2
      go_ret
      exact ⟨rfl, hU1⟩
    · have t2 : (x == n - 1) = false := by simpa using t2
      have HB2 : Hid (B = sqs n x (s - 1)) := hid (by rw [HB.out, t1, t2]; rfl)
      clear HB
      go_enter Tryd.func85, Tryd.ntmps85
      go_wp2_with fail
      refine (HP.out _).mono ?_
      rintro r w1 ⟨rfl, hU1⟩
      go_wp2_with fail
      go_loopw [9, 24] (fun vx vi wr => ∃ (y : Int) (i : Nat), vx = .int .u64 y ∧ vi = .int .i64 i ∧ i ≤ s - 1 ∧ 0 ≤ y ∧ y < n ∧ B = sqs n y (s - 1 - i) ∧ Up w wr) (fun _ vi _ => s - 1 - (intOf vi).toNat)
      case atStart => exact ⟨x, 0, rfl, rfl, by omega, x0, x1, HB2.out, hU1⟩
      case round =>
        obtain ⟨y, i, rfl, rfl, hi, y0, y1, hI, hU⟩ := hrel
        have HI := hid hI
        clear hI
        have p0 : 0 ≤ y * y % n := Int.emod_nonneg _ (by omega)
        have p1 : y * y % n < n := Int.emod_lt_of_pos _ (by omega)
        by_cases hl : i < s - 1
        · have hl2 : decide ((i : Int) < (s : Int) - 1) = true := by simp; omega
          have hq : s - 1 - i = (s - 1 - (i + 1)) + 1 := by omega
          have HI2 : Hid (B = (y * y % n == n - 1 || sqs n (y * y % n) (s - 1 - (i + 1)))) := hid (by rw [HI.out, hq]; rfl)
          clear HI hq
          go_wp2_with fail
          refine (pmul_any y y n _ y0 y1 y0 y1 h4).mono ?_
          rintro r w2 ⟨rfl, hU2⟩
          by_cases t3 : (y * y % n == n - 1) = true
          · have hB : B = true := by rw [HI2.out, t3]; rfl
            subst hB
            go_wp2
            go_ret
            exact ⟨rfl, hU.trans hU2⟩
          · have t3 : (y * y % n == n - 1) = false := by simpa using t3
            have HI3 : Hid (B = sqs n (y * y % n) (s - 1 - (i + 1))) := hid (by rw [HI2.out, t3]; rfl)
            clear HI2
            go_wp2_with fail
            go_roundw
            case rel => exact ⟨_, i + 1, rfl, by go_num, by omega, p0, p1, HI3.out, hU.trans hU2⟩
            case measure => simp [intOf]; omega
        · have hB : B = false := by rw [HI.out, show s - 1 - i = 0 by omega]; rfl
          have hl2 : decide ((i : Int) < (s : Int) - 1) = false := by simp; omega
          subst hB
          go_wp2
          go_ret
          exact ⟨rfl, hU⟩

theorem bases_at : ∀ (i : Nat) (_ : i < 12) (w : World), (Instr.index 147 (.agg basesCells) (.int .i64 i)).run Tryd.prog w = .ok (.int .u64 (baseList.getD i 0)) w
  | 0, _, _ => by kernel_rfl
  | 1, _, _ => by kernel_rfl
  | 2, _, _ => by kernel_rfl
  | 3, _, _ => by kernel_rfl
  | 4, _, _ => by kernel_rfl
  | 5, _, _ => by kernel_rfl
  | 6, _, _ => by kernel_rfl
  | 7, _, _ => by kernel_rfl
  | 8, _, _ => by kernel_rfl
  | 9, _, _ => by kernel_rfl
  | 10, _, _ => by kernel_rfl
  | 11, _, _ => by kernel_rfl
  | n + 12, h, _ => absurd h (by omega)

theorem base_bd (i : Nat) (hi : i < 12) : 2 ≤ baseList.getD i 0 ∧ baseList.getD i 0 ≤ 37 := by
  have h : i = 0 ∨ i = 1 ∨ i = 2 ∨ i = 3 ∨ i = 4 ∨ i = 5 ∨ i = 6 ∨ i = 7 ∨ i = 8 ∨ i = 9 ∨ i = 10 ∨ i = 11 := by omega
  rcases h with rfl | rfl | rfl | rfl | rfl | rfl | rfl | rfl | rfl | rfl | rfl | rfl <;> decide

theorem base_drop (i : Nat) (hi : i < 12) : baseList.drop i = baseList.getD i 0 :: baseList.drop (i + 1) := by
  rw [List.drop_eq_getElem_cons (by simpa [baseList] using hi)]
  simp [List.getD_eq_getElem?_getD, List.getElem?_eq_getElem (show i < baseList.length by simpa [baseList] using hi)]

theorem Is_small (n : Int) (w : World) (h : n < 2) : Calls Tryd.prog 62 #[.int .i64 n] w fun e w' => e = .returned (.bool (isP n)) ∧ Up w w' := by
  go_enter Tryd.func62, Tryd.ntmps62
  go_wp2
  go_ret
  exact ⟨by simp [isP, h], Up.refl _⟩

set_option maxHeartbeats 1000000 in
theorem Is_big (n : Int) (w : World) (h2 : 2 ≤ n) (h3 : n ≤ 9223372036854775807) (hT : Tab w) : Calls Tryd.prog 62 #[.int .i64 n] w fun e w' => e = .returned (.bool (isP n)) ∧ Up w w' := by
  have HT := hid hT
  obtain ⟨⟨tt, fr, hg⟩, -⟩ := hT
  have t0 : decide (n < 2) = false := by simp; omega
  have HP : Hid (isP n = match trial baseList n with | some b => b | none => baseList.all fun a => strongB n a ((n - 1).toNat / 2 ^ Lib.ctz 64 (n - 1).toNat) (Lib.ctz 64 (n - 1).toNat)) :=
    hid (by rw [isP, if_neg (by omega)]; rfl)
  generalize isP n = B at *
  go_enter Tryd.func62, Tryd.ntmps62
  go_wp2_with (refine wpList_load_row rfl 147 _ rfl 1 rfl tt basesCells fr _ hg Tryd.underlying147 rfl (by kernel_rfl) ?_)
  go_loop [14] (fun vi => ∃ i : Nat, i ≤ 12 ∧ vi = .int .i64 i ∧ trial baseList n = trial (baseList.drop i) n) (fun vi => 12 - (intOf vi).toNat)
  case atStart => exact ⟨0, by omega, rfl, rfl⟩
  case round =>
    obtain ⟨i, hi, rfl, hI⟩ := hrel
    by_cases hl : i < 12
    · have hix := bases_at i hl
      obtain ⟨p0, p1⟩ := base_bd i hl
      have hl2 : decide ((i : Int) < 12) = true := by simp; omega
      have hI2 : trial baseList n = if n % baseList.getD i 0 = 0 then some (n == baseList.getD i 0) else trial (baseList.drop (i + 1)) n := by
        rw [hI, base_drop i hl]; rfl
      have HI2 := hid hI2
      clear hI2 hI
      generalize baseList.getD i 0 = p at *
      have hp0 : (p == 0) = false := by simp; omega
      by_cases t1 : n % p = 0
      · have t1' : (n % p == 0) = true := by simpa using t1
        have HB2 : Hid (B = (n == p)) := hid (by rw [HP.out, HI2.out, if_pos t1])
        clear t1
        go_wp2
        go_ret
        exact ⟨by rw [HB2.out]; rfl, Up.refl _⟩
      · have t1' : (n % p == 0) = false := by simpa using t1
        have HI3 : Hid (trial baseList n = trial (baseList.drop (i + 1)) n) := hid (by rw [HI2.out, if_neg t1])
        clear t1
        go_wp2
        go_round
        case rel => exact ⟨i + 1, by omega, by go_num, HI3.out⟩
        case measure => simp [intOf]; omega
    · have hi12 : i = 12 := by omega
      subst hi12
      have hN : trial baseList n = none := by rw [hI]; rfl
      have hB : B = baseList.all fun a => strongB n a ((n - 1).toNat / 2 ^ Lib.ctz 64 (n - 1).toNat) (Lib.ctz 64 (n - 1).toNat) := by rw [HP.out, hN]
      have h41 : 38 ≤ n := by
        refine Int.not_lt.1 fun hlt => ?_
        have : n = 2 ∨ n = 3 ∨ n = 4 ∨ n = 5 ∨ n = 6 ∨ n = 7 ∨ n = 8 ∨ n = 9 ∨ n = 10 ∨ n = 11 ∨ n = 12 ∨ n = 13 ∨ n = 14 ∨ n = 15 ∨ n = 16 ∨ n = 17 ∨ n = 18 ∨ n = 19 ∨ n = 20 ∨ n = 21 ∨ n = 22 ∨ n = 23 ∨ n = 24 ∨ n = 25 ∨ n = 26 ∨ n = 27 ∨ n = 28 ∨ n = 29 ∨ n = 30 ∨ n = 31 ∨ n = 32 ∨ n = 33 ∨ n = 34 ∨ n = 35 ∨ n = 36 ∨ n = 37 := by omega
        rcases this with h | h | h | h | h | h | h | h | h | h | h | h | h | h | h | h | h | h | h | h | h | h | h | h | h | h | h | h | h | h | h | h | h | h | h | h <;> (rw [h] at hN; exact absurd hN (by decide))
      have hcz : Lib.ctz 64 (n - 1).toNat < 64 := (Lib.lowest_bit 64 (n - 1).toNat (by omega) (by omega)).2
      have htz := tz64_any (n - 1).toNat (by omega) (by omega) w HT.out
      rw [show (((n - 1).toNat : Nat) : Int) = n - 1 by omega] at htz
      have hdv : (n - 1) / 2 ^ Lib.ctz 64 (n - 1).toNat = (((n - 1).toNat / 2 ^ Lib.ctz 64 (n - 1).toNat : Nat) : Int) := by
        rw [Int.natCast_ediv, Int.toNat_of_nonneg (by omega)]; simp
      have hd1 : (n - 1).toNat / 2 ^ Lib.ctz 64 (n - 1).toNat ≤ 9223372036854775807 := Nat.le_trans (Nat.div_le_self _ _) (by omega)
      have HC := hid (fun a w' (h0 : 0 ≤ a) (h1 : a < n) => composite_any a n ((n - 1).toNat / 2 ^ Lib.ctz 64 (n - 1).toNat) (Lib.ctz 64 (n - 1).toNat) w' h0 h1 hd1 (by omega) h2 h3)
      generalize Lib.ctz 64 (n - 1).toNat = s at *
      generalize (n - 1).toNat / 2 ^ s = d at *
      have HB := hid hB
      have HTZ := hid htz
      clear hB hN hI HP htz
      go_wp2_with fail
      refine HTZ.out.mono ?_
      rintro e w' ⟨rfl, rfl⟩
      go_wp2_with (refine wpList_load_row rfl 147 _ rfl 1 rfl tt basesCells fr _ hg Tryd.underlying147 rfl (by kernel_rfl) ?_)
      go_loopw [29] (fun vi wr => ∃ i : Nat, i ≤ 12 ∧ vi = .int .i64 i ∧ B = (baseList.drop i).all (fun a => strongB n a d s) ∧ Up w wr) (fun vi _ => 12 - (intOf vi).toNat)
      case atStart => exact ⟨0, by omega, rfl, HB.out, Up.refl _⟩
      case round =>
        obtain ⟨i, hi, rfl, hI, hU⟩ := hrel
        by_cases hl : i < 12
        · have hix := bases_at i hl
          obtain ⟨p0, p1⟩ := base_bd i hl
          have hl2 : decide ((i : Int) < 12) = true := by simp; omega
          have hI2 : B = (strongB n (baseList.getD i 0) d s && (baseList.drop (i + 1)).all (fun a => strongB n a d s)) := by
            rw [hI, base_drop i hl]; rfl
          have HI2 := hid hI2
          clear hI2 hI
          have HC2 := fun w' => HC.out (baseList.getD i 0) w' (by omega) (by omega)
          generalize baseList.getD i 0 = p at *
          go_wp2_with fail
          refine (HC2 _).mono ?_
          rintro e w2 ⟨rfl, hU2⟩
          have hU3 := hU.trans hU2
          clear HC2 hU hU2
          generalize strongB n p d s = C at *
          cases C
          · have hB2 : B = false := by rw [HI2.out]; rfl
            subst hB2
            go_wp2
            go_ret
            exact ⟨rfl, hU3⟩
          · go_wp2
            go_roundw
            case rel => exact ⟨i + 1, by omega, by go_num, by rw [HI2.out]; rfl, hU3⟩
            case measure => simp [intOf]; omega
        · have hi12 : i = 12 := by omega
          subst hi12
          have hB2 : B = true := by rw [hI]; rfl
          subst hB2
          clear hI
          go_wp2
          go_ret
          exact ⟨rfl, hU⟩

theorem Is_any (n : Int) (w : World) (h3 : n ≤ 9223372036854775807) (hT : Tab w) : Calls Tryd.prog 62 #[.int .i64 n] w fun e w' => e = .returned (.bool (isP n)) ∧ Up w w' := by
  by_cases h : n < 2
  · exact Is_small n w h
  · exact Is_big n w (by omega) h3 hT
end Go.Proofs.YtkimojconidhlaaDoor
namespace Go.Proofs.YtkimojconidhlaaDoor
open Go.RowKit Go.Sp
set_option maxHeartbeats 400000

end Go.Proofs.YtkimojconidhlaaDoor
namespace Go.Proofs.YtkimojconidhlaaDoor
open Go.RowKit Go.Sp
set_option maxHeartbeats 400000

/-- The twelve numbers lie in a block. -/
def Twelve (w : World) (b : Nat) : Prop := ∀ i, i < 12 → w.cell? ⟨b, i, none⟩ = some (.int .i64 (baseList.getD i 0))

end Go.Proofs.YtkimojconidhlaaDoor
namespace Go.Proofs.YtkimojconidhlaaDoor
open Go.RowKit Go.Sp
set_option maxHeartbeats 400000

/-- A group as a value. -/
abbrev grp (P Q G : Int) : Value := .agg #[.int .i64 P, .int .i64 Q, .int .i64 G]

theorem Valid_any (P Q G : Int) (w : World) (hP : -9223372036854775808 ≤ P) (hQ : Q ≤ 9223372036854775807) (hT : Tab w) :
    Calls Tryd.prog 37 #[grp P Q G] w fun e w' => e = .returned (.bool (gvB P Q G)) ∧ Up w w' := by
  have HT := hid hT
  clear hT
  have HB : Hid (gvB P Q G = (decide (P < 2305843009213693952) && decide (3 ≤ Q) && decide (Q % 2 = 1) && isP P && isP Q && decide ((P - 1) % Q = 0) && decide (2 ≤ G) && decide (G < P) && decide (pw G Q.toNat P = 1))) := hid rfl
  generalize gvB P Q G = B at *
  by_cases c1 : P < 2305843009213693952
  case neg =>
    have hB : B = false := by rw [HB.out]; simp [c1]
    subst hB
    go_enter Tryd.func37, Tryd.ntmps37
    go_wp2
    go_ret
    exact ⟨rfl, (Up.refl w).alloc _⟩
  have d1 : decide (2305843009213693952 ≤ P) = false := by simp; omega
  by_cases c2 : 3 ≤ Q
  case neg =>
    have hB : B = false := by rw [HB.out]; simp [c2]
    subst hB
    go_enter Tryd.func37, Tryd.ntmps37
    go_wp2
    go_ret
    exact ⟨rfl, (Up.refl w).alloc _⟩
  have d2 : decide (Q < 3) = false := by simp; omega
  by_cases c3 : Q % 2 = 1
  case neg =>
    have hB : B = false := by rw [HB.out]; simp [c3]
    subst hB
    have d3 : (Q % 2 == 0) = true := by simp; omega
    clear c3
    go_enter Tryd.func37, Tryd.ntmps37
    go_wp2
    go_ret
    exact ⟨rfl, (Up.refl w).alloc _⟩
  have d3 : (Q % 2 == 0) = false := by simp; omega
  have C3 := hid c3
  clear c3
  go_enter Tryd.func37, Tryd.ntmps37
  go_wp2_with fail
  refine (Is_any P _ (by omega) (HT.out.up ((Up.refl w).alloc _))).mono ?_
  rintro e w1 ⟨rfl, hU1⟩
  obtain ⟨hr1, hf1⟩ := hU1.reads
  have hs1 : w.heap.size < w1.heap.size := by have := hU1.size; simp at this; omega
  have HT1 := hid (HT.out.up (((Up.refl w).alloc _).trans hU1))
  by_cases c4 : isP P = true
  case neg =>
    have hB : B = false := by rw [HB.out]; simp [c4]
    subst hB
    have d4 : isP P = false := by simpa using c4
    clear c4
    go_wp2
    go_ret
    exact ⟨rfl, ((Up.refl w).alloc _).trans hU1⟩
  have p2 := isP_two c4
  go_wp2_with fail
  refine (Is_any Q _ hQ HT1.out).mono ?_
  rintro e w2 ⟨rfl, hU2⟩
  obtain ⟨hr2, hf2⟩ := hU2.reads
  by_cases c5 : isP Q = true
  case neg =>
    have hB : B = false := by rw [HB.out]; simp [c5]
    subst hB
    have d5 : isP Q = false := by simpa using c5
    clear c5
    go_wp2
    go_ret
    exact ⟨rfl, (((Up.refl w).alloc _).trans hU1).trans hU2⟩
  have dq : (Q == 0) = false := by simp; omega
  by_cases c6 : (P - 1) % Q = 0
  case neg =>
    have hB : B = false := by rw [HB.out]; simp [c6]
    subst hB
    have d6 : ((P - 1) % Q != 0) = true := by simp [c6]
    have d6' : ((P - 1) % Q == 0) = false := by simp [c6]
    clear c6
    go_wp2
    go_ret
    exact ⟨rfl, (((Up.refl w).alloc _).trans hU1).trans hU2⟩
  have d6 : ((P - 1) % Q != 0) = false := by simp [c6]
  have d6' : ((P - 1) % Q == 0) = true := by simp [c6]
  have C6 := hid c6
  clear c6
  by_cases c7 : 2 ≤ G
  case neg =>
    have hB : B = false := by rw [HB.out]; simp [c7]
    subst hB
    have d7 : decide (G < 2) = true := by simp; omega
    go_wp2
    go_ret
    exact ⟨rfl, (((Up.refl w).alloc _).trans hU1).trans hU2⟩
  have d7 : decide (G < 2) = false := by simp; omega
  by_cases c8 : G < P
  case neg =>
    have hB : B = false := by rw [HB.out]; simp [c8]
    subst hB
    have d8 : decide (P ≤ G) = true := by simp; omega
    go_wp2
    go_ret
    exact ⟨rfl, (((Up.refl w).alloc _).trans hU1).trans hU2⟩
  have d8 : decide (P ≤ G) = false := by simp; omega
  go_wp2_with fail
  refine (Pow_ok G Q P _ (by omega) c8 (by omega) hQ c1).mono ?_
  rintro e w3 ⟨rfl, hU3⟩
  have hB : B = decide (pw G Q.toNat P = 1) := by rw [HB.out]; simp [c1, c2, C3.out, c4, c5, C6.out, c7, c8]
  have HB2 := hid hB
  clear hB
  by_cases c9 : pw G Q.toNat P = 1
  · have d9 : (pw G Q.toNat P == 1) = true := by simp [c9]
    have hB : B = true := by rw [HB2.out]; simp [c9]
    subst hB
    clear c9
    go_wp2
    go_ret
    exact ⟨rfl, ((((Up.refl w).alloc _).trans hU1).trans hU2).trans hU3⟩
  · have d9 : (pw G Q.toNat P == 1) = false := by simp [c9]
    have hB : B = false := by rw [HB2.out]; simp [c9]
    subst hB
    clear c9
    go_wp2
    go_ret
    exact ⟨rfl, ((((Up.refl w).alloc _).trans hU1).trans hU2).trans hU3⟩
end Go.Proofs.YtkimojconidhlaaDoor
