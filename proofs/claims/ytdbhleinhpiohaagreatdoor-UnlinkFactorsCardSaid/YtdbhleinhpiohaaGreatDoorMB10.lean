/- Package digest and its reference: a rotation; the words of a block. Package digest: the words of a block. Package digest: a block mixed into the state. Package digest: a number in bytes; bytes.Clone. Package digest: Sum. -/
import Derived.Test.YtdbhleinhpiohaaGreatDoorMB1
import Derived.Test.YtdbhleinhpiohaaGreatDoorMB9
import Derived.Test.YtdbhleinhpiohaaGreatDoorMB8
import Derived.Test.YtdbhleinhpiohaaGreatDoorMB5
import Derived.Deep.QuietTactic
import Derived.BigRegion
import Derived.Deep.WholeRow
import Derived.Great.BuildSlice
import Derived.StillTailTactics
namespace Go.Proofs.YtdbhleinhpiohaaGreatDoor
open Go.RowKit Go.Sp
set_option maxHeartbeats 1000000
set_option maxRecDepth 20000

theorem rotl_2 (x : Int) (w : World) :
    Calls Tryz.prog 116 #[.int .u32 x, .int .i64 (-2)] w fun e w' => e = .returned (.int .u32 (rotr x 2)) ∧ w = w' := by
  have k1 : bits BinOp.and IntKind.u64 (IntKind.u64.wrap (-2)) 31 = 30 := by kernel_rfl
  go_enter Tryz.func116, Tryz.ntmps116
  go_wp2
  go_ret
  exact ⟨by rw [rotr, bits_or_comm]; rfl, rfl⟩

theorem right_2 (x : Int) (w : World) :
    Calls Tryz.prog 108 #[.int .u32 x, .int .i64 2] w fun e w' => e = .returned (.int .u32 (rotr x 2)) ∧ w = w' := by
  have hR := hid (rotl_2 x w)
  generalize rotr x 2 = y at *
  go_enter Tryz.func108, Tryz.ntmps108
  go_wp2_with fail
  refine hR.out.mono ?_
  rintro e w' ⟨rfl, rfl⟩
  go_wp2
  go_ret
  exact ⟨rfl, rfl⟩

theorem rright_2 (x : Int) (w : World) :
    Calls Tryz.prog 102 #[.int .u32 x, .int .i64 2] w fun e w' => e = .returned (.int .u32 (rotr x 2)) ∧ Up w w' := by
  go_enter Tryz.func102, Tryz.ntmps102
  go_wp2
  go_quiet (fail)
  go_wp2
  go_ret
  exact ⟨rfl, (Up.refl w).drewN _⟩

theorem rotl_6 (x : Int) (w : World) :
    Calls Tryz.prog 116 #[.int .u32 x, .int .i64 (-6)] w fun e w' => e = .returned (.int .u32 (rotr x 6)) ∧ w = w' := by
  have k1 : bits BinOp.and IntKind.u64 (IntKind.u64.wrap (-6)) 31 = 26 := by kernel_rfl
  go_enter Tryz.func116, Tryz.ntmps116
  go_wp2
  go_ret
  exact ⟨by rw [rotr, bits_or_comm]; rfl, rfl⟩

theorem right_6 (x : Int) (w : World) :
    Calls Tryz.prog 108 #[.int .u32 x, .int .i64 6] w fun e w' => e = .returned (.int .u32 (rotr x 6)) ∧ w = w' := by
  have hR := hid (rotl_6 x w)
  generalize rotr x 6 = y at *
  go_enter Tryz.func108, Tryz.ntmps108
  go_wp2_with fail
  refine hR.out.mono ?_
  rintro e w' ⟨rfl, rfl⟩
  go_wp2
  go_ret
  exact ⟨rfl, rfl⟩

theorem rright_6 (x : Int) (w : World) :
    Calls Tryz.prog 102 #[.int .u32 x, .int .i64 6] w fun e w' => e = .returned (.int .u32 (rotr x 6)) ∧ Up w w' := by
  go_enter Tryz.func102, Tryz.ntmps102
  go_wp2
  go_quiet (fail)
  go_wp2
  go_ret
  exact ⟨rfl, (Up.refl w).drewN _⟩

theorem rotl_7 (x : Int) (w : World) :
    Calls Tryz.prog 116 #[.int .u32 x, .int .i64 (-7)] w fun e w' => e = .returned (.int .u32 (rotr x 7)) ∧ w = w' := by
  have k1 : bits BinOp.and IntKind.u64 (IntKind.u64.wrap (-7)) 31 = 25 := by kernel_rfl
  go_enter Tryz.func116, Tryz.ntmps116
  go_wp2
  go_ret
  exact ⟨by rw [rotr, bits_or_comm]; rfl, rfl⟩

theorem right_7 (x : Int) (w : World) :
    Calls Tryz.prog 108 #[.int .u32 x, .int .i64 7] w fun e w' => e = .returned (.int .u32 (rotr x 7)) ∧ w = w' := by
  have hR := hid (rotl_7 x w)
  generalize rotr x 7 = y at *
  go_enter Tryz.func108, Tryz.ntmps108
  go_wp2_with fail
  refine hR.out.mono ?_
  rintro e w' ⟨rfl, rfl⟩
  go_wp2
  go_ret
  exact ⟨rfl, rfl⟩

theorem rright_7 (x : Int) (w : World) :
    Calls Tryz.prog 102 #[.int .u32 x, .int .i64 7] w fun e w' => e = .returned (.int .u32 (rotr x 7)) ∧ Up w w' := by
  go_enter Tryz.func102, Tryz.ntmps102
  go_wp2
  go_quiet (fail)
  go_wp2
  go_ret
  exact ⟨rfl, (Up.refl w).drewN _⟩

theorem rotl_11 (x : Int) (w : World) :
    Calls Tryz.prog 116 #[.int .u32 x, .int .i64 (-11)] w fun e w' => e = .returned (.int .u32 (rotr x 11)) ∧ w = w' := by
  have k1 : bits BinOp.and IntKind.u64 (IntKind.u64.wrap (-11)) 31 = 21 := by kernel_rfl
  go_enter Tryz.func116, Tryz.ntmps116
  go_wp2
  go_ret
  exact ⟨by rw [rotr, bits_or_comm]; rfl, rfl⟩

theorem right_11 (x : Int) (w : World) :
    Calls Tryz.prog 108 #[.int .u32 x, .int .i64 11] w fun e w' => e = .returned (.int .u32 (rotr x 11)) ∧ w = w' := by
  have hR := hid (rotl_11 x w)
  generalize rotr x 11 = y at *
  go_enter Tryz.func108, Tryz.ntmps108
  go_wp2_with fail
  refine hR.out.mono ?_
  rintro e w' ⟨rfl, rfl⟩
  go_wp2
  go_ret
  exact ⟨rfl, rfl⟩

theorem rright_11 (x : Int) (w : World) :
    Calls Tryz.prog 102 #[.int .u32 x, .int .i64 11] w fun e w' => e = .returned (.int .u32 (rotr x 11)) ∧ Up w w' := by
  go_enter Tryz.func102, Tryz.ntmps102
  go_wp2
  go_quiet (fail)
  go_wp2
  go_ret
  exact ⟨rfl, (Up.refl w).drewN _⟩

theorem rotl_13 (x : Int) (w : World) :
    Calls Tryz.prog 116 #[.int .u32 x, .int .i64 (-13)] w fun e w' => e = .returned (.int .u32 (rotr x 13)) ∧ w = w' := by
  have k1 : bits BinOp.and IntKind.u64 (IntKind.u64.wrap (-13)) 31 = 19 := by kernel_rfl
  go_enter Tryz.func116, Tryz.ntmps116
  go_wp2
  go_ret
  exact ⟨by rw [rotr, bits_or_comm]; rfl, rfl⟩

theorem right_13 (x : Int) (w : World) :
    Calls Tryz.prog 108 #[.int .u32 x, .int .i64 13] w fun e w' => e = .returned (.int .u32 (rotr x 13)) ∧ w = w' := by
  have hR := hid (rotl_13 x w)
  generalize rotr x 13 = y at *
  go_enter Tryz.func108, Tryz.ntmps108
  go_wp2_with fail
  refine hR.out.mono ?_
  rintro e w' ⟨rfl, rfl⟩
  go_wp2
  go_ret
  exact ⟨rfl, rfl⟩

theorem rright_13 (x : Int) (w : World) :
    Calls Tryz.prog 102 #[.int .u32 x, .int .i64 13] w fun e w' => e = .returned (.int .u32 (rotr x 13)) ∧ Up w w' := by
  go_enter Tryz.func102, Tryz.ntmps102
  go_wp2
  go_quiet (fail)
  go_wp2
  go_ret
  exact ⟨rfl, (Up.refl w).drewN _⟩

theorem rotl_17 (x : Int) (w : World) :
    Calls Tryz.prog 116 #[.int .u32 x, .int .i64 (-17)] w fun e w' => e = .returned (.int .u32 (rotr x 17)) ∧ w = w' := by
  have k1 : bits BinOp.and IntKind.u64 (IntKind.u64.wrap (-17)) 31 = 15 := by kernel_rfl
  go_enter Tryz.func116, Tryz.ntmps116
  go_wp2
  go_ret
  exact ⟨by rw [rotr, bits_or_comm]; rfl, rfl⟩

theorem right_17 (x : Int) (w : World) :
    Calls Tryz.prog 108 #[.int .u32 x, .int .i64 17] w fun e w' => e = .returned (.int .u32 (rotr x 17)) ∧ w = w' := by
  have hR := hid (rotl_17 x w)
  generalize rotr x 17 = y at *
  go_enter Tryz.func108, Tryz.ntmps108
  go_wp2_with fail
  refine hR.out.mono ?_
  rintro e w' ⟨rfl, rfl⟩
  go_wp2
  go_ret
  exact ⟨rfl, rfl⟩

theorem rright_17 (x : Int) (w : World) :
    Calls Tryz.prog 102 #[.int .u32 x, .int .i64 17] w fun e w' => e = .returned (.int .u32 (rotr x 17)) ∧ Up w w' := by
  go_enter Tryz.func102, Tryz.ntmps102
  go_wp2
  go_quiet (fail)
  go_wp2
  go_ret
  exact ⟨rfl, (Up.refl w).drewN _⟩

theorem rotl_18 (x : Int) (w : World) :
    Calls Tryz.prog 116 #[.int .u32 x, .int .i64 (-18)] w fun e w' => e = .returned (.int .u32 (rotr x 18)) ∧ w = w' := by
  have k1 : bits BinOp.and IntKind.u64 (IntKind.u64.wrap (-18)) 31 = 14 := by kernel_rfl
  go_enter Tryz.func116, Tryz.ntmps116
  go_wp2
  go_ret
  exact ⟨by rw [rotr, bits_or_comm]; rfl, rfl⟩

theorem right_18 (x : Int) (w : World) :
    Calls Tryz.prog 108 #[.int .u32 x, .int .i64 18] w fun e w' => e = .returned (.int .u32 (rotr x 18)) ∧ w = w' := by
  have hR := hid (rotl_18 x w)
  generalize rotr x 18 = y at *
  go_enter Tryz.func108, Tryz.ntmps108
  go_wp2_with fail
  refine hR.out.mono ?_
  rintro e w' ⟨rfl, rfl⟩
  go_wp2
  go_ret
  exact ⟨rfl, rfl⟩

theorem rright_18 (x : Int) (w : World) :
    Calls Tryz.prog 102 #[.int .u32 x, .int .i64 18] w fun e w' => e = .returned (.int .u32 (rotr x 18)) ∧ Up w w' := by
  go_enter Tryz.func102, Tryz.ntmps102
  go_wp2
  go_quiet (fail)
  go_wp2
  go_ret
  exact ⟨rfl, (Up.refl w).drewN _⟩

theorem rotl_19 (x : Int) (w : World) :
    Calls Tryz.prog 116 #[.int .u32 x, .int .i64 (-19)] w fun e w' => e = .returned (.int .u32 (rotr x 19)) ∧ w = w' := by
  have k1 : bits BinOp.and IntKind.u64 (IntKind.u64.wrap (-19)) 31 = 13 := by kernel_rfl
  go_enter Tryz.func116, Tryz.ntmps116
  go_wp2
  go_ret
  exact ⟨by rw [rotr, bits_or_comm]; rfl, rfl⟩

theorem right_19 (x : Int) (w : World) :
    Calls Tryz.prog 108 #[.int .u32 x, .int .i64 19] w fun e w' => e = .returned (.int .u32 (rotr x 19)) ∧ w = w' := by
  have hR := hid (rotl_19 x w)
  generalize rotr x 19 = y at *
  go_enter Tryz.func108, Tryz.ntmps108
  go_wp2_with fail
  refine hR.out.mono ?_
  rintro e w' ⟨rfl, rfl⟩
  go_wp2
  go_ret
  exact ⟨rfl, rfl⟩

theorem rright_19 (x : Int) (w : World) :
    Calls Tryz.prog 102 #[.int .u32 x, .int .i64 19] w fun e w' => e = .returned (.int .u32 (rotr x 19)) ∧ Up w w' := by
  go_enter Tryz.func102, Tryz.ntmps102
  go_wp2
  go_quiet (fail)
  go_wp2
  go_ret
  exact ⟨rfl, (Up.refl w).drewN _⟩

theorem rotl_22 (x : Int) (w : World) :
    Calls Tryz.prog 116 #[.int .u32 x, .int .i64 (-22)] w fun e w' => e = .returned (.int .u32 (rotr x 22)) ∧ w = w' := by
  have k1 : bits BinOp.and IntKind.u64 (IntKind.u64.wrap (-22)) 31 = 10 := by kernel_rfl
  go_enter Tryz.func116, Tryz.ntmps116
  go_wp2
  go_ret
  exact ⟨by rw [rotr, bits_or_comm]; rfl, rfl⟩

theorem right_22 (x : Int) (w : World) :
    Calls Tryz.prog 108 #[.int .u32 x, .int .i64 22] w fun e w' => e = .returned (.int .u32 (rotr x 22)) ∧ w = w' := by
  have hR := hid (rotl_22 x w)
  generalize rotr x 22 = y at *
  go_enter Tryz.func108, Tryz.ntmps108
  go_wp2_with fail
  refine hR.out.mono ?_
  rintro e w' ⟨rfl, rfl⟩
  go_wp2
  go_ret
  exact ⟨rfl, rfl⟩

theorem rright_22 (x : Int) (w : World) :
    Calls Tryz.prog 102 #[.int .u32 x, .int .i64 22] w fun e w' => e = .returned (.int .u32 (rotr x 22)) ∧ Up w w' := by
  go_enter Tryz.func102, Tryz.ntmps102
  go_wp2
  go_quiet (fail)
  go_wp2
  go_ret
  exact ⟨rfl, (Up.refl w).drewN _⟩

theorem rotl_25 (x : Int) (w : World) :
    Calls Tryz.prog 116 #[.int .u32 x, .int .i64 (-25)] w fun e w' => e = .returned (.int .u32 (rotr x 25)) ∧ w = w' := by
  have k1 : bits BinOp.and IntKind.u64 (IntKind.u64.wrap (-25)) 31 = 7 := by kernel_rfl
  go_enter Tryz.func116, Tryz.ntmps116
  go_wp2
  go_ret
  exact ⟨by rw [rotr, bits_or_comm]; rfl, rfl⟩

theorem right_25 (x : Int) (w : World) :
    Calls Tryz.prog 108 #[.int .u32 x, .int .i64 25] w fun e w' => e = .returned (.int .u32 (rotr x 25)) ∧ w = w' := by
  have hR := hid (rotl_25 x w)
  generalize rotr x 25 = y at *
  go_enter Tryz.func108, Tryz.ntmps108
  go_wp2_with fail
  refine hR.out.mono ?_
  rintro e w' ⟨rfl, rfl⟩
  go_wp2
  go_ret
  exact ⟨rfl, rfl⟩

theorem rright_25 (x : Int) (w : World) :
    Calls Tryz.prog 102 #[.int .u32 x, .int .i64 25] w fun e w' => e = .returned (.int .u32 (rotr x 25)) ∧ Up w w' := by
  go_enter Tryz.func102, Tryz.ntmps102
  go_wp2
  go_quiet (fail)
  go_wp2
  go_ret
  exact ⟨rfl, (Up.refl w).drewN _⟩
end Go.Proofs.YtdbhleinhpiohaaGreatDoor
namespace Go.Proofs.YtdbhleinhpiohaaGreatDoor
open Go.RowKit Go.Sp
set_option maxHeartbeats 2000000
set_option maxRecDepth 20000

/-- The first j bytes of the i-th word. -/
def wordTo (b : Nat → Int) (i : Nat) : Nat → Int
  | 0 => 0
  | j + 1 => wordTo b i j * 256 + b (4 * i + j)

theorem wordTo_four (b : Nat → Int) (i : Nat) : wordTo b i 4 = wordB b i := by simp [wordTo, wordB]

theorem wordTo_range {b : Nat → Int} (h : Byt b) (i : Nat) : ∀ j, 0 ≤ wordTo b i j ∧ wordTo b i j < 256 ^ j
  | 0 => by simp [wordTo]
  | j + 1 => by
    have ih := wordTo_range h i j
    have hb := h (4 * i + j)
    have e : (256 : Int) ^ (j + 1) = 256 ^ j * 256 := Int.pow_succ _ _
    rw [wordTo, e]
    omega

theorem or_byte (x c : Int) (h0 : 0 ≤ x) (h1 : x < 16777216) (h2 : 0 ≤ c) (h3 : c ≤ 255) : bits .or .u32 (x * 256) c = x * 256 + c := by
  have := bits_join .u32 32 (by decide) (fun n a b => by rw [IntKind.wrap_u32]; omega) 8 (x := x * 256) (y := c) (by omega) (by omega) (by omega) (by omega) (by omega) (by omega)
  exact this

/-- The array of the words while it is filled: i words, and j bytes of the next one. -/
def wFill (b : Nat → Int) (i j : Nat) : Nat → Int := fun t => if t < i then wAt b t else if t = i then wordTo b i j else 0

def wPart (b : Nat → Int) (n : Nat) : Nat → Int := fun t => if t < n then wAt b t else 0

theorem zero64 : #[.int .u32 0, .int .u32 0, .int .u32 0, .int .u32 0, .int .u32 0, .int .u32 0, .int .u32 0, .int .u32 0, .int .u32 0, .int .u32 0, .int .u32 0, .int .u32 0, .int .u32 0, .int .u32 0, .int .u32 0, .int .u32 0,
    .int .u32 0, .int .u32 0, .int .u32 0, .int .u32 0, .int .u32 0, .int .u32 0, .int .u32 0, .int .u32 0, .int .u32 0, .int .u32 0, .int .u32 0, .int .u32 0, .int .u32 0, .int .u32 0, .int .u32 0, .int .u32 0,
    .int .u32 0, .int .u32 0, .int .u32 0, .int .u32 0, .int .u32 0, .int .u32 0, .int .u32 0, .int .u32 0, .int .u32 0, .int .u32 0, .int .u32 0, .int .u32 0, .int .u32 0, .int .u32 0, .int .u32 0, .int .u32 0,
    .int .u32 0, .int .u32 0, .int .u32 0, .int .u32 0, .int .u32 0, .int .u32 0, .int .u32 0, .int .u32 0, .int .u32 0, .int .u32 0, .int .u32 0, .int .u32 0, .int .u32 0, .int .u32 0, .int .u32 0, .int .u32 0] = arrK .u32 (fun _ => 0) 64 := by kernel_rfl

theorem wFill_zero (b : Nat → Int) (i : Nat) : arrK .u32 (wPart b i) 64 = arrK .u32 (wFill b i 0) 64 := arrK_congr fun t _ => by
  unfold wPart wFill wordTo
  split
  · rfl
  · split <;> rfl
theorem wFill_four (b : Nat → Int) {i : Nat} (hi : i < 16) : arrK .u32 (wFill b i 4) 64 = arrK .u32 (wPart b (i + 1)) 64 := arrK_congr fun t _ => by
  unfold wPart wFill
  by_cases h : t < i
  · rw [if_pos h, if_pos (by omega)]
  · rw [if_neg h]
    by_cases h2 : t = i
    · rw [if_pos h2, if_pos (by omega), wordTo_four, h2, wAt_low hi]
    · rw [if_neg h2, if_neg (by omega)]
theorem wFill_step (b : Nat → Int) (i j : Nat) : (arrK .u32 (wFill b i j) 64).setIfInBounds i (.int .u32 (wordTo b i j * 256 + b (4 * i + j))) = arrK .u32 (wFill b i (j + 1)) 64 := by
  rw [arrK_set]
  refine arrK_congr fun t _ => ?_
  unfold wFill
  by_cases h : t = i
  · subst h
    simp [wordTo]
  · simp [h]
theorem wPart_step (b : Nat → Int) (i : Nat) : (arrK .u32 (wPart b i) 64).setIfInBounds i (.int .u32 (wAt b i)) = arrK .u32 (wPart b (i + 1)) 64 := by
  rw [arrK_set]
  refine arrK_congr fun t _ => ?_
  unfold wPart
  by_cases h : t = i
  · subst h
    simp
  · have e1 : (t < i + 1) ↔ (t < i) := by omega
    simp [h, e1]
theorem wPart_all (b : Nat → Int) : arrK .u32 (wPart b 64) 64 = arrK .u32 (wAt b) 64 := arrK_congr fun t ht => by
  unfold wPart
  rw [if_pos ht]
theorem wPart_none (b : Nat → Int) : arrK .u32 (fun _ => 0) 64 = arrK .u32 (wPart b 0) 64 := arrK_congr fun t _ => by
  unfold wPart
  rw [if_neg (by omega)]
theorem wPart_at (b : Nat → Int) {i t : Nat} (h : t < i) (h2 : t < 64) : (arrK .u32 (wPart b i) 64)[t]? = some (.int .u32 (wAt b t)) := by
  rw [arrK_get h2, wPart, if_pos h]
theorem wPart_hole (b : Nat → Int) {i : Nat} (h2 : i < 64) : (arrK .u32 (wPart b i) 64)[i]? = some (.int .u32 0) := by
  rw [arrK_get h2, wPart, if_neg (by omega)]
theorem wFill_at (b : Nat → Int) {i j : Nat} (h2 : i < 64) : (arrK .u32 (wFill b i j) 64)[i]? = some (.int .u32 (wordTo b i j)) := by
  rw [arrK_get h2, wFill, if_neg (by omega), if_pos rfl]

theorem schedule_any (v : Value) (xs : List Int) (w : World) (hv : SeqAt .u8 w v xs) (hl : xs.length = 64) (hB : Byt fun j => xs.getD j 0) :
    Calls Tryz.prog 107 #[v] w fun e w' => e = .returned (.agg (arrK .u32 (wAt fun j => xs.getD j 0) 64)) ∧ Up w w' := by
  have HV := hid hv
  obtain ⟨b0, o0, c0, rfl, _⟩ := hv.cell (i := 0) (by omega)
  obtain ⟨_, cap, hshape, hcap1, hcap2⟩ := hv.shape
  simp only [Value.slice.injEq] at hshape
  obtain ⟨-, -, rfl⟩ := hshape
  rw [hl] at hcap1 HV
  rw [hl]
  have HL := hid hl
  obtain ⟨b, hb⟩ : ∃ b : Nat → Int, (fun j => xs.getD j 0) = b := ⟨_, rfl⟩
  rw [hb]
  rw [hb] at hB
  have Hb := hid hb
  have HB := hid hB
  clear hv hl hb hB
  go_enter Tryz.func107, Tryz.ntmps107
  go_wp2_with fail
  obtain ⟨o, ho⟩ : ∃ o, w.heap.size = o := ⟨_, rfl⟩
  rw [ho]
  go_loopw [12] (fun vi wr => ∃ i : Nat, i ≤ 16 ∧ vi = .int .i64 i ∧ Hid (Blk wr (o + 1) 128 (arrK .u32 (wPart b i) 64)) ∧ Hid (Blk wr o 128 (arrK .u32 (fun _ => 0) 64)) ∧ Hid (Up w wr)) (fun vi _ => 16 - (intOf vi).toNat)
  case atStart => exact ⟨0, by omega, rfl, hid (Blk.new (by simp [ho]) (zero64.trans (wPart_none b))), hid ((Blk.new ho zero64).alloc _), hid (((Up.refl w).alloc _).alloc _)⟩
  case round =>
    have HOo := hid ho
    clear ho
    obtain ⟨i, hi, rfl, HW, HR, HU⟩ := hrel
    by_cases hlt : i < 16
    · go_wp2_with fail
      go_loopw [23] (fun vj wr2 => ∃ j : Nat, j ≤ 4 ∧ vj = .int .i64 j ∧ Hid (Blk wr2 (o + 1) 128 (arrK .u32 (wFill b i j) 64)) ∧ Hid (Blk wr2 o 128 (arrK .u32 (fun _ => 0) 64)) ∧ Hid (Up w wr2)) (fun vj _ => 4 - (intOf vj).toNat)
      case atStart => exact ⟨0, by omega, rfl, hid (by rw [← wFill_zero]; exact HW.out), HR, HU⟩
      case round =>
        clear HW HR HU
        obtain ⟨j, hj, rfl, HW, HR, HU⟩ := hrel
        rename_i wr2 _
        by_cases hjl : j < 4
        · obtain ⟨b1, o1, c1, hsh, hx⟩ := (HV.out.up HU.out).cell (i := 4 * i + j) (by rw [HL.out]; omega)
          simp only [Value.slice.injEq, Option.some.injEq, Addr.mk.injEq] at hsh
          obtain ⟨⟨rfl, rfl, -⟩, -, -⟩ := hsh
          rw [← Nat.add_assoc, show xs.getD (4 * i + j) 0 = b (4 * i + j) from congrFun Hb.out _] at hx
          have hw := HW.out.val (wFill_at b (i := i) (j := j) (by omega))
          have hf := HW.out.thawed i
          have HS := hid (wFill_step b i j)
          have r1 := wordTo_range HB.out i j
          have r2 : (256 : Int) ^ j ≤ 16777216 := by
            have : j = 0 ∨ j = 1 ∨ j = 2 ∨ j = 3 := by omega
            rcases this with rfl | rfl | rfl | rfl <;> decide
          have r3 := HB.out (4 * i + j)
          generalize wordTo b i j = x at *
          generalize b (4 * i + j) = c at *
          have hor := or_byte x c r1.1 (by omega) r3.1 r3.2
          have hcm : c % 4294967296 = c := by omega
          have x0 := r1.1
          have x1 : x < 16777216 := by omega
          clear r1 r2 r3
          go_wp2_with fail
          go_roundw
          case rel => exact ⟨j + 1, by omega, by go_num, hid (by rw [← HS.out]; exact HW.out.wrote _ _), hid (HR.out.apart (by simp) _), hid (HU.out.setCell (by simp; have := HOo.out; omega) _)⟩
          case measure => simp [intOf]; omega
        · obtain rfl : j = 4 := by omega
          have HW2 := hid HW.out
          rw [wFill_four b hlt] at HW2
          clear HW hjl
          go_wp2_with fail
          go_roundw
          case rel => exact ⟨i + 1, by omega, by go_num, HW2, HR, HU⟩
          case measure => simp [intOf]; omega
    · have HW16 := hid HW.out
      rw [show i = 16 by omega] at HW16
      clear HW
      go_wp2_with fail
      go_loopw [7] (fun vt wr2 => ∃ t : Nat, 16 ≤ t ∧ t ≤ 64 ∧ vt = .int .i64 t ∧ Hid (Blk wr2 (o + 1) 128 (arrK .u32 (wPart b t) 64)) ∧ Hid (Blk wr2 o 128 (arrK .u32 (fun _ => 0) 64)) ∧ Hid (Up w wr2)) (fun vt _ => 64 - (intOf vt).toNat)
      case atStart => exact ⟨16, by omega, by omega, rfl, HW16, HR, HU⟩
      case round =>
        clear HW16 HR HU
        obtain ⟨t, ht0, ht, rfl, HW, HR, HU⟩ := hrel
        by_cases htl : t < 64
        · have q1 := HW.out.val (wPart_at b (i := t) (t := t - 15) (by omega) (by omega))
          have q2 := HW.out.val (wPart_at b (i := t) (t := t - 2) (by omega) (by omega))
          have q3 := HW.out.val (wPart_at b (i := t) (t := t - 16) (by omega) (by omega))
          have q4 := HW.out.val (wPart_at b (i := t) (t := t - 7) (by omega) (by omega))
          have q5 := HW.out.val (wPart_hole b (i := t) (by omega))
          have q6 := HW.out.thawed t
          have HS := hid (wPart_step b t)
          have HQ : Hid (∀ w3, Blk w3 (o + 1) 128 (arrK .u32 (wPart b t) 64) → w3.cell? ⟨o + 1, t - 16, none⟩ = some (.int .u32 (wAt b (t - 16))) ∧ w3.cell? ⟨o + 1, t - 7, none⟩ = some (.int .u32 (wAt b (t - 7))) ∧ w3.cell? ⟨o + 1, t, none⟩ = some (.int .u32 0)) := hid fun w3 h => ⟨h.val (wPart_at b (by omega) (by omega)), h.val (wPart_at b (by omega) (by omega)), h.val (wPart_hole b (by omega))⟩
          have HE := hid (wAt_high (b := b) ht0)
          have z1 : (15 : Int) ≤ t := by omega
          have z2 : (t : Int) < 64 := by omega
          generalize wAt b (t - 15) = x at *
          generalize wAt b (t - 2) = y at *
          generalize wAt b (t - 16) = p at *
          generalize wAt b (t - 7) = q at *
          go_wp2_with fail
          go_quiet (fail)
          go_wp2_with (go_at_call 108; first | ((with_reducible refine (right_7 _ _).mono ?_); rintro e w' ⟨rfl, rfl⟩) | ((with_reducible refine (right_18 _ _).mono ?_); rintro e w' ⟨rfl, rfl⟩) | ((with_reducible refine (right_17 _ _).mono ?_); rintro e w' ⟨rfl, rfl⟩) | ((with_reducible refine (right_19 _ _).mono ?_); rintro e w' ⟨rfl, rfl⟩))
          have hud := (Up.refl wr).drewN nq
          have HW2 := hid (HW.out.up hud)
          have HR2 := hid (HR.out.up hud)
          have HU2 := hid (HU.out.trans hud)
          clear hud q1 q2 q3 q4 q5 q6
          generalize wr.drewN nq = w3 at *
          obtain ⟨q3, q4, q5⟩ := HQ.out w3 HW2.out
          have q6 := HW2.out.thawed t
          clear HQ HW HR HU
          obtain ⟨s0, hs0⟩ : ∃ s0, sg0 x = s0 := ⟨_, rfl⟩
          obtain ⟨s1, hs1⟩ : ∃ s1, sg1 y = s1 := ⟨_, rfl⟩
          rw [show bits BinOp.xor IntKind.u32 (bits BinOp.xor IntKind.u32 (rotr x 7) (rotr x 18)) (x / 8) = s0 from hs0]
          rw [show bits BinOp.xor IntKind.u32 (bits BinOp.xor IntKind.u32 (rotr y 17) (rotr y 19)) (y / 1024) = s1 from hs1]
          rw [hs0, hs1] at HE
          have HE2 : Hid (wAt b t = (p + s0 + q + s1) % 4294967296) := hid (by rw [HE.out]; simp only [plus, IntKind.wrap_u32]; omega)
          clear hs0 hs1 HE
          go_region
          all_goals (
            go_wp2_with fail
            go_roundw
            case rel => exact ⟨t + 1, by omega, by omega, by go_num, hid (by rw [← HS.out, HE2.out]; exact (HW2.out.wrote _ _).up (Up.refl _).drew), hid ((HR2.out.apart (by simp) _).up (Up.refl _).drew), hid (HU2.out.setCell (by have := HOo.out; show w.heap.size ≤ o + 1; omega) _).drew⟩
            case measure => simp [intOf]; omega)
        · obtain rfl : t = 64 := by omega
          have HW2 := hid HW.out
          rw [wPart_all] at HW2
          clear HW htl ht ht0
          go_wp2_with (first | (refine wpList_load_row rfl 128 _ rfl _ rfl 128 _ (0, 0) _ HW2.out Tryz.underlying128 rfl (by rw [arrK_size]; kernel_rfl) ?_) | (refine wpList_store_row rfl 128 _ _ rfl _ _ rfl rfl 128 _ HR.out (by rw [arrK_size]; kernel_rfl) (by rw [arrK_size, arrK_size]) arrK_one ?_))
          refine bodyPost_ret (v := .agg (arrK .u32 (wAt b) 64)) (results_cell_row rfl _ _ o 128 _ (0, 0) _ (by rfl) (HR.out.row _) Tryz.underlying128 rfl (by rw [arrK_size]; kernel_rfl)) rfl ⟨rfl, HU.out.setRow (by have := HOo.out; omega) _⟩
end Go.Proofs.YtdbhleinhpiohaaGreatDoor
namespace Go.Proofs.YtdbhleinhpiohaaGreatDoor
open Go.RowKit Go.Sp
set_option maxHeartbeats 2000000
set_option maxRecDepth 20000

/-- The cells of a state. -/
def stA (s : St) : Array Value := #[.int .u32 s.a, .int .u32 s.b, .int .u32 s.c, .int .u32 s.d, .int .u32 s.e, .int .u32 s.f, .int .u32 s.g, .int .u32 s.h]

theorem stA_arr (s : St) : stA s = arrK .u32 s.get 8 := by kernel_rfl

/-- The variables of package digest hold what the program's text lays. -/
def TabS (w : World) : Prop :=
  (∃ t fr, w.heap[0]? = some (.cells (stA shaStart) t fr)) ∧ ∀ i, i < 64 → w.cell? ⟨2, i, none⟩ = some (.int .u32 (shaK.getD i 0))

theorem TabS.up {w w' : World} (h : TabS w) (hU : Up w w') : TabS w' := by
  obtain ⟨⟨t, fr, h1⟩, h2⟩ := h
  exact ⟨⟨t, fr, by rw [hU.block (Array.getElem?_eq_some_iff.1 h1).1]; exact h1⟩, fun i hi => by rw [hU.cell (cell_in (h2 i hi))]; exact h2 i hi⟩

theorem index8 (s : St) : ∀ (i : Nat) (_ : i < 8) (w : World), (Instr.index 114 (.agg (stA s)) (.int .i64 i)).run Tryz.prog w = .ok (.int .u32 (s.get i)) w
  | 0, _, _ => by kernel_rfl
  | 1, _, _ => by kernel_rfl
  | 2, _, _ => by kernel_rfl
  | 3, _, _ => by kernel_rfl
  | 4, _, _ => by kernel_rfl
  | 5, _, _ => by kernel_rfl
  | 6, _, _ => by kernel_rfl
  | 7, _, _ => by kernel_rfl

theorem zero8 : #[.int .u32 0, .int .u32 0, .int .u32 0, .int .u32 0, .int .u32 0, .int .u32 0, .int .u32 0, .int .u32 0] = arrK .u32 (fun _ => 0) 8 := by kernel_rfl

/-- The state while the sums are laid into it. -/
def sMix (s v : St) (i : Nat) : Nat → Int := fun j => if j < i then plus (s.get j) (v.get j) else s.get j

theorem sMix_zero (s v : St) : stA s = arrK .u32 (sMix s v 0) 8 := by
  rw [stA_arr]
  exact arrK_congr fun j _ => by simp [sMix]
theorem sMix_at (s v : St) {i : Nat} (hi : i < 8) : (arrK .u32 (sMix s v i) 8)[i]? = some (.int .u32 (s.get i)) := by
  rw [arrK_get hi, sMix, if_neg (by omega)]
theorem sMix_step (s v : St) (i : Nat) : (arrK .u32 (sMix s v i) 8).setIfInBounds i (.int .u32 (plus (s.get i) (v.get i))) = arrK .u32 (sMix s v (i + 1)) 8 := by
  rw [arrK_set]
  refine arrK_congr fun t _ => ?_
  unfold sMix
  by_cases h : t = i
  · subst h
    simp
  · have e1 : (t < i + 1) ↔ (t < i) := by omega
    simp [h, e1]
theorem sMix_all (b : Nat → Int) (s : St) : arrK .u32 (sMix s (rnds b s 64) 8) 8 = stA (mixS b s) := by
  rw [stA_arr]
  refine arrK_congr fun t ht => ?_
  rw [sMix, if_pos ht, mixS_get]

theorem u32_not : (if IntKind.u32.signed = true then (-1 : Int) else IntKind.u32.max) = 4294967295 := by decide

theorem same_turn' {P : Program} {f : FuncId} {args : Array Value} {w : World} {v : Value} (h : Calls P f args w fun e w' => e = .returned v ∧ w = w') : Calls P f args w fun e w' => e = .returned v ∧ w' = w :=
  h.mono fun _ _ ⟨a, b⟩ => ⟨a, b.symm⟩

theorem mix_any (s : St) (v : Value) (xs : List Int) (w : World) (hT : TabS w) (hv : SeqAt .u8 w v xs) (hl : xs.length = 64) (hB : Byt fun j => xs.getD j 0) :
    Calls Tryz.prog 94 #[.agg (stA s), v] w fun e w' => e = .returned (.agg (stA (mixS (fun j => xs.getD j 0) s))) ∧ Up w w' := by
  have HT := hid hT
  have HSch := hid (fun w' (hU : Up w w') => schedule_any v xs w' (hv.up hU) hl hB)
  obtain ⟨a0, cap, rfl, _, _⟩ := hv.shape
  obtain ⟨b, hb⟩ : ∃ b : Nat → Int, (fun j => xs.getD j 0) = b := ⟨_, rfl⟩
  rw [hb] at HSch
  rw [hb]
  clear hT hv hl hB hb
  obtain ⟨R, hR⟩ : ∃ R, stA (mixS b s) = R := ⟨_, rfl⟩
  rw [hR]
  have HR := hid hR
  clear hR
  have HA := hid (stA_arr s)
  have HE := hid (rfl : s = ⟨s.a, s.b, s.c, s.d, s.e, s.f, s.g, s.h⟩)
  unfold stA
  go_enter Tryz.func94, Tryz.ntmps94
  go_wp2_with fail
  refine (HSch.out _ (((Up.refl w).alloc _).alloc _)).mono ?_
  rintro e w1 ⟨rfl, hU1⟩
  obtain ⟨o, ho⟩ : ∃ o, w.heap.size = o := ⟨_, rfl⟩
  have HOo := hid ho
  rw [ho]
  have hS1 : Blk w1 o 114 (stA s) := ((Blk.new ho rfl).alloc _).up hU1
  have hZ1 : Blk w1 (o + 1) 114 (arrK .u32 (fun _ => 0) 8) := (Blk.new (by simp [ho]) zero8).up hU1
  have hU2 := ((((Up.refl w).alloc _).alloc _).trans hU1).alloc (.cells (arrK .u32 (wAt b) 64) 128)
  clear hU1 ho
  go_wp2_with (first | (refine wpList_store_rowTo rfl 128 _ _ rfl rfl _ _ rfl rfl 128 _ (heap_alloc_new _ _) (by rw [arrK_size]; kernel_rfl) (by rw [arrK_size]; rfl) arrK_one ?_; rw [World.setRow_alloc_new]))
  obtain ⟨g, hg⟩ : ∃ g, w1.heap.size = g := ⟨_, rfl⟩
  rw [hg]
  obtain ⟨w2, hw2⟩ : ∃ w2, w1.alloc (.cells (arrK .u32 (wAt b) 64) 128) = w2 := ⟨_, rfl⟩
  have hW2 : Blk w2 g 128 (arrK .u32 (wAt b) 64) := by rw [← hw2]; exact Blk.new hg rfl
  have hS2 : Blk w2 o 114 (stA s) := by rw [← hw2]; exact hS1.alloc _
  have hZ2 : Blk w2 (o + 1) 114 (arrK .u32 (fun _ => 0) 8) := by rw [← hw2]; exact hZ1.alloc _
  have l1 := hS1.lt
  have l2 := hZ1.lt
  rw [hg] at l1 l2
  rw [hw2] at hU2
  rw [hw2]
  clear hw2 hS1 hZ1 hg
  have c0 := hS2.val (i := 0) rfl
  have c1 := hS2.val (i := 1) rfl
  have c2 := hS2.val (i := 2) rfl
  have c3 := hS2.val (i := 3) rfl
  have c4 := hS2.val (i := 4) rfl
  have c5 := hS2.val (i := 5) rfl
  have c6 := hS2.val (i := 6) rfl
  have c7 := hS2.val (i := 7) rfl
  go_quiet (fail)
  have hud := (Up.refl w2).drewN nq
  have HW := hid (hW2.up hud)
  have HS := hid (hS2.up hud)
  have HZ := hid (hZ2.up hud)
  have HU := hid (hU2.trans hud)
  clear hud c0 c1 c2 c3 c4 c5 c6 c7 hW2 hS2 hZ2 hU2
  generalize w2.drewN nq = w3 at *
  go_wp2_with fail
  go_loopw [6, 7, 8, 9, 10, 11, 12, 13, 37] (fun v0 v1 v2 v3 v4 v5 v6 v7 vt wr => ∃ (t : Nat) (A B C D E F G H : Int), t ≤ 64 ∧ vt = .int .i64 t ∧ v0 = .int .u32 A ∧ v1 = .int .u32 B ∧ v2 = .int .u32 C ∧ v3 = .int .u32 D ∧ v4 = .int .u32 E ∧ v5 = .int .u32 F ∧ v6 = .int .u32 G ∧ v7 = .int .u32 H ∧
      Hid (rnds b s t = ⟨A, B, C, D, E, F, G, H⟩) ∧ Hid (Blk wr g 128 (arrK .u32 (wAt b) 64)) ∧ Hid (Blk wr o 114 (stA s)) ∧ Hid (Blk wr (o + 1) 114 (arrK .u32 (fun _ => 0) 8)) ∧ Hid (Up w wr)) (fun _ _ _ _ _ _ _ _ vt _ => 64 - (intOf vt).toNat)
  case atStart => exact ⟨0, _, _, _, _, _, _, _, _, by omega, rfl, rfl, rfl, rfl, rfl, rfl, rfl, rfl, rfl, hid rfl, HW, HS, HZ, HU⟩
  case round =>
    clear HW HS HZ HU
    obtain ⟨t, A, B, C, D, E, F, G, H, ht, rfl, rfl, rfl, rfl, rfl, rfl, rfl, rfl, rfl, HX, HW, HS, HZ, HU⟩ := hrel
    by_cases hlt : t < 64
    · have q1 := HW.out.val (arrK_get hlt)
      have q2 := (HT.out.up HU.out).2 t hlt
      have HN : Hid (rnds b s (t + 1) = rnd ⟨A, B, C, D, E, F, G, H⟩ (shaK.getD t 0) (wAt b t)) := hid (by rw [rnds, HX.out])
      have z2 : (t : Int) < 64 := by omega
      generalize wAt b t = W at *
      generalize shaK.getD t 0 = K at *
      go_wp2_with fail
      go_quiet ((go_at_call 108; first | ((with_reducible (show Calls _ _ #[_, .int .i64 6] _ _)); exact Calls.quiet_of_same (same_turn' (right_6 _ _))) | ((with_reducible (show Calls _ _ #[_, .int .i64 11] _ _)); exact Calls.quiet_of_same (same_turn' (right_11 _ _))) | ((with_reducible (show Calls _ _ #[_, .int .i64 25] _ _)); exact Calls.quiet_of_same (same_turn' (right_25 _ _)))))
      have hud := (Up.refl wr).drewN nq
      have HW2 := hid (HW.out.up hud)
      have HS2 := hid (HS.out.up hud)
      have HZ2 := hid (HZ.out.up hud)
      have HU2 := hid (HU.out.trans hud)
      clear hud q1 q2 HW HS HZ HU
      generalize wr.drewN nq = w4 at *
      go_wp2_with (go_at_call 108; first | ((with_reducible (show Calls _ _ #[_, .int .i64 2] _ _)); refine (right_2 _ _).mono ?_; rintro e w' ⟨rfl, rfl⟩) | ((with_reducible (show Calls _ _ #[_, .int .i64 13] _ _)); refine (right_13 _ _).mono ?_; rintro e w' ⟨rfl, rfl⟩) | ((with_reducible (show Calls _ _ #[_, .int .i64 22] _ _)); refine (right_22 _ _).mono ?_; rintro e w' ⟨rfl, rfl⟩))
      go_roundw
      case rel => exact ⟨t + 1, _, _, _, _, _, _, _, _, by omega, by go_num, rfl, rfl, rfl, rfl, rfl, rfl, rfl, rfl, hid (by rw [HN.out]; simp only [rnd, rndX, rndY, bs0, bs1, chs, maj, plus, u32_not, IntKind.wrap_u32, St.mk.injEq]; refine ⟨?_, trivial, trivial, trivial, ?_, trivial, trivial, trivial⟩ <;> omega), HW2, HS2, HZ2, HU2⟩
      case measure => simp [intOf]; omega
    · obtain ⟨V, hV⟩ : ∃ V : St, (⟨A, B, C, D, E, F, G, H⟩ : St) = V := ⟨_, rfl⟩
      have HV : Hid (rnds b s 64 = V) := hid (by rw [← hV, ← HX.out, show t = 64 by omega])
      have HVV := hid hV
      have HS3 := hid HS.out
      rw [sMix_zero s V] at HS3
      clear HX HW HS hV
      go_wp2_with fail
      go_loopw [109] (fun vi wr => ∃ i : Nat, i ≤ 8 ∧ vi = .int .i64 i ∧ Hid (Blk wr o 114 (arrK .u32 (sMix s V i) 8)) ∧ Hid (Blk wr (o + 1) 114 (arrK .u32 (fun _ => 0) 8)) ∧ Hid (Up w wr)) (fun vi _ => 8 - (intOf vi).toNat)
      case atStart => exact ⟨0, by omega, rfl, HS3, HZ, HU⟩
      case round =>
        clear HS3 HZ HU
        obtain ⟨i, hi, rfl, HS, HZ, HU⟩ := hrel
        by_cases hil : i < 8
        · have q1 := HS.out.val (sMix_at s V hil)
          have q2 := HS.out.thawed i
          have q3 : ∀ w', (Instr.index 114 (.agg #[.int .u32 A, .int .u32 B, .int .u32 C, .int .u32 D, .int .u32 E, .int .u32 F, .int .u32 G, .int .u32 H]) (.int .i64 i)).run Tryz.prog w' = .ok (.int .u32 (V.get i)) w' := fun w' => by rw [← HVV.out]; exact index8 ⟨A, B, C, D, E, F, G, H⟩ i hil w'
          have HN := hid (sMix_step s V i)
          generalize s.get i = x at *
          generalize V.get i = y at *
          go_wp2_with fail
          go_roundw
          case rel => exact ⟨i + 1, by omega, by go_num, hid (by rw [← HN.out, show plus x y = (x + y) % 4294967296 from IntKind.wrap_u32 _]; exact HS.out.wrote _ _), hid (HZ.out.apart (by simp) _), hid (HU.out.setCell (by have := HOo.out; show w.heap.size ≤ o; omega) _)⟩
          case measure => simp [intOf]; omega
        · have HR2 : Hid (arrK .u32 (sMix s V i) 8 = R) := hid (by rw [show i = 8 by omega, ← HV.out, sMix_all]; exact HR.out)
          have HS4 := hid HS.out
          rw [HR2.out] at HS4
          have HSz : Hid (R.size = 8 ∧ R.all (·.oneCell') = true) := hid ⟨by rw [← HR2.out, arrK_size], by rw [← HR2.out]; exact arrK_one⟩
          clear HS HR2
          go_wp2_with (first | (refine wpList_load_row rfl 114 _ rfl _ rfl 114 _ (0, 0) _ HS4.out Tryz.underlying114 rfl (by rw [HSz.out.1]; kernel_rfl) ?_) | (refine wpList_store_rowTo rfl 114 _ _ rfl rfl _ _ rfl rfl 114 _ HZ.out (by rw [HSz.out.1]; kernel_rfl) (by rw [arrK_size, HSz.out.1]) HSz.out.2 ?_))
          refine bodyPost_ret (v := .agg R) (results_cell_row rfl _ _ (o + 1) 114 _ (0, 0) _ (by rfl) (HZ.out.row _) Tryz.underlying114 rfl (by rw [HSz.out.1]; kernel_rfl)) rfl ⟨rfl, HU.out.setRow (by have := HOo.out; omega) _⟩
end Go.Proofs.YtdbhleinhpiohaaGreatDoor
namespace Go.Proofs.YtdbhleinhpiohaaGreatDoor
open Go.RowKit Go.Sp
set_option maxHeartbeats 2000000
set_option maxRecDepth 20000

theorem infoU8 : (Tryz.prog.info? 5).map (fun i => (i.zero, i.size, i.bytes)) = some (some (.int .u8 0), 1, 1) := by kernel_rfl

theorem count_any (n : Int) (w : World) :
    Calls Tryz.prog 93 #[.int .u64 n] w fun e w' => ∃ v, e = .returned v ∧ OwnS 5 .u8 w' w.heap.size v (beL 8 n) ∧ Up w w' := by
  have hmk : ∀ W, (Instr.makeSlice 73 (.int .i64 8) (.int .i64 8)).run Tryz.prog W = .ok (.slice (some ⟨W.heap.size, 0, none⟩) 8 8) (W.alloc (.cells #[.int .u8 0, .int .u8 0, .int .u8 0, .int .u8 0, .int .u8 0, .int .u8 0, .int .u8 0, .int .u8 0] 5)) := fun _ => by kernel_rfl
  obtain ⟨f, hf⟩ : ∃ f : Nat → Int, (fun i => n / 2 ^ (8 * (8 - 1 - i)) % 256) = f := ⟨_, rfl⟩
  have HL : Hid (beL 8 n = (List.range 8).map f) := hid (by rw [← hf]; rfl)
  have HF := hid hf
  clear hf
  go_enter Tryz.func93, Tryz.ntmps93
  go_wp2_with fail
  clear hmk
  obtain ⟨o, ho⟩ : ∃ o, w.heap.size = o := ⟨_, rfl⟩
  rw [ho]
  go_loopw [8] (fun vi wr => ∃ i : Nat, i ≤ 8 ∧ vi = .int .i64 i ∧ Hid (Blk wr o 5 (arrK .u8 (pfill f i) 8)) ∧ Hid (Up w wr)) (fun vi _ => 8 - (intOf vi).toNat)
  case atStart => exact ⟨0, by omega, rfl, hid (Blk.new ho ((by kernel_rfl : _ = arrK .u8 (fun _ => 0) 8).trans (pfill_zero _ _ _))), hid ((Up.refl w).alloc _)⟩
  case round =>
    have HOo := hid ho
    clear ho
    obtain ⟨i, hi, rfl, HB, HU⟩ := hrel
    by_cases hlt : i < 8
    · have q1 := HB.out.val (pfill_at hlt)
      have q2 := HB.out.thawed i
      have HP := hid (pfill_put .u8 f i 8)
      have hfi : f i = n / 2 ^ (56 - 8 * i) % 256 := by rw [← HF.out, show 56 - 8 * i = 8 * (8 - 1 - i) by omega]
      have HFI := hid hfi
      clear hfi
      go_wp2_with fail
      go_roundw
      case rel => exact ⟨i + 1, by omega, by go_num, hid (by rw [← HP.out, HFI.out]; exact HB.out.wrote _ _), hid (HU.out.setCell (by have := HOo.out; show w.heap.size ≤ o; omega) _)⟩
      case measure => simp [intOf]; omega
    · have HL2 : Hid ((List.range 8).map f = beL 8 n) := hid HL.out.symm
      have HB2 := hid HB.out
      rw [show i = 8 by omega, pfill_all] at HB2
      go_wp2
      go_ret
      exact ⟨_, rfl, by rw [HL.out]; exact HB2.out.own (by have := HOo.out; omega) (by omega), HU.out⟩

theorem bClone_any (v : Value) (xs : List Int) (w : World) (hv : SeqAt .u8 w v xs) (hl : xs.length ≤ 1099511627776) :
    Calls Tryz.prog 79 #[v] w fun e w' => ∃ v', e = .returned v' ∧ OwnS 5 .u8 w' w.heap.size v' xs ∧ Up w w' := by
  have HV := hid hv
  obtain ⟨a, cap, rfl, h1, h2, h3, _⟩ := hv
  cases a with
  | none =>
    have hc := h3 rfl
    subst hc
    have hx : xs = [] := List.length_eq_zero_iff.1 (by omega)
    subst hx
    have hnil := fun w' => Lib.run_eql_slice_nil (P := Tryz.prog) w' 73 5 none 0 0 0 0 Tryz.underlying73
    go_enter Tryz.func79, Tryz.ntmps79
    go_wp2
    go_ret
    exact ⟨_, rfl, own_none, Up.refl w⟩
  | some a =>
    clear h3
    have hnil := fun w' => Lib.run_eql_slice_nil (P := Tryz.prog) w' 73 5 (some a) xs.length cap 0 0 Tryz.underlying73
    go_enter Tryz.func79, Tryz.ntmps79
    go_wp2_with (at_builtin; refine wp_app infoU8 Tryz.underlying73 (by omega) rfl _ _ rfl w.heap.size rfl rfl (own_empty (Blk.new rfl rfl) (Nat.le_refl _)) (HV.out.up ((Up.refl w).alloc _)) (by simp; omega) (by simp) ?_; intro v' w' ho hg)
    go_ret
    exact ⟨v', rfl, ho, Up.own ((Up.refl w).alloc _) (own_empty (e := 5) (k := .u8) (Blk.new rfl rfl) (Nat.le_refl _)) hg (Nat.le_refl _)⟩
end Go.Proofs.YtdbhleinhpiohaaGreatDoor
namespace Go.Proofs.YtdbhleinhpiohaaGreatDoor
open Go.RowKit Go.Sp
set_option maxHeartbeats 2000000
set_option maxRecDepth 20000

/-- A digest as a value. -/
def hashV (h : Nat → Int) : Value := .agg (arrK .u8 h 32)

theorem zero32 : #[.int .u8 0, .int .u8 0, .int .u8 0, .int .u8 0, .int .u8 0, .int .u8 0, .int .u8 0, .int .u8 0, .int .u8 0, .int .u8 0, .int .u8 0, .int .u8 0, .int .u8 0, .int .u8 0, .int .u8 0, .int .u8 0,
    .int .u8 0, .int .u8 0, .int .u8 0, .int .u8 0, .int .u8 0, .int .u8 0, .int .u8 0, .int .u8 0, .int .u8 0, .int .u8 0, .int .u8 0, .int .u8 0, .int .u8 0, .int .u8 0, .int .u8 0, .int .u8 0] = arrK .u8 (fun _ => 0) 32 := by kernel_rfl

theorem stA_size (s : St) : (stA s).size = 8 := rfl
theorem stA_one {s : St} : (stA s).all (·.oneCell') = true := by rw [stA_arr]; exact arrK_one

/-- How many zeros pad so many bytes. -/
def padZ (n : Nat) : Nat := (119 - n % 64) % 64

def padTo (xs : List Int) (z : Nat) : List Int := xs ++ [128] ++ List.replicate z 0

theorem padTo_length (xs : List Int) (z : Nat) : (padTo xs z).length = xs.length + 1 + z := by simp [padTo]; omega
theorem padTo_step (xs : List Int) (z : Nat) : padTo xs z ++ [0] = padTo xs (z + 1) := by
  unfold padTo
  rw [List.append_assoc, List.replicate_succ', List.append_assoc]
theorem padL_eq (xs : List Int) : padL xs = padTo xs (padZ xs.length) ++ beL 8 (8 * xs.length) := rfl

theorem byt_getD {p : List Int} (h : ∀ x ∈ p, 0 ≤ x ∧ x ≤ 255) (i : Nat) : 0 ≤ p.getD i 0 ∧ p.getD i 0 ≤ 255 := by
  by_cases hi : i < p.length
  · rw [List.getD_eq_getElem?_getD, List.getElem?_eq_getElem hi]
    exact h _ (List.getElem_mem hi)
  · rw [List.getD_eq_getElem?_getD, List.getElem?_eq_none (by omega)]
    simp

theorem beL_byt (n : Nat) (x : Int) : ∀ y ∈ beL n x, 0 ≤ y ∧ y ≤ 255 := by
  intro y hy
  simp only [beL, List.mem_map] at hy
  obtain ⟨i, _, rfl⟩ := hy
  have := Int.emod_lt_of_pos (x / 2 ^ (8 * (n - 1 - i))) (show (0 : Int) < 256 by decide)
  exact ⟨Int.emod_nonneg _ (by decide), by omega⟩

theorem padL_byt {xs : List Int} (h : ∀ x ∈ xs, 0 ≤ x ∧ x ≤ 255) : ∀ x ∈ padL xs, 0 ≤ x ∧ x ≤ 255 := by
  intro x hx
  simp only [padL, List.mem_append, List.mem_singleton, List.mem_replicate] at hx
  rcases hx with ((hx | rfl) | ⟨_, rfl⟩) | hx
  · exact h x hx
  · omega
  · omega
  · exact beL_byt _ _ x hx

theorem blk_byt {p : List Int} (h : ∀ x ∈ p, 0 ≤ x ∧ x ≤ 255) (k : Nat) : Byt (blkAt p k) := fun _ => byt_getD h _

theorem drop_blk (p : List Int) (k : Nat) (h : 64 * k + 64 ≤ p.length) : (((p.drop (64 * k)).drop 0).take (64 - 0)).length = 64 ∧ (fun j => (((p.drop (64 * k)).drop 0).take (64 - 0)).getD j 0) = fun j => if j < 64 then blkAt p k j else 0 := by
  constructor
  · simp; omega
  · funext j
    by_cases hj : j < 64
    · rw [if_pos hj]
      simp [blkAt, List.getD_eq_getElem?_getD, hj]
    · rw [if_neg hj, List.getD_eq_getElem?_getD, List.getElem?_eq_none (by simp; omega)]
      rfl

/-- Only the first 64 bytes of a block count. -/
theorem wAt_cut {b c : Nat → Int} (h : ∀ j, j < 64 → b j = c j) : ∀ t, wAt b t = wAt c t := by
  intro t
  induction t using Nat.strongRecOn with
  | ind t ih =>
    by_cases ht : t < 16
    · rw [wAt_low ht, wAt_low ht, wordB, wordB, h _ (by omega), h _ (by omega), h _ (by omega), h _ (by omega)]
    · rw [wAt_high (b := b) (t := t) (by omega), wAt_high (b := c) (t := t) (by omega), ih _ (by omega), ih _ (by omega), ih _ (by omega), ih _ (by omega)]
theorem rnds_cut {b c : Nat → Int} (h : ∀ j, j < 64 → b j = c j) (s : St) : ∀ t, rnds b s t = rnds c s t
  | 0 => rfl
  | t + 1 => by rw [rnds, rnds, rnds_cut h s t, wAt_cut h]
theorem mixS_cut {b c : Nat → Int} (h : ∀ j, j < 64 → b j = c j) (s : St) : mixS b s = mixS c s := by
  unfold mixS
  rw [rnds_cut h s]

theorem Sum_any (v : Value) (xs : List Int) (w : World) (hT : TabS w) (hv : SeqAt .u8 w v xs) (hl : xs.length ≤ 1099511627000) (hB : ∀ x ∈ xs, 0 ≤ x ∧ x ≤ 255) :
    Calls Tryz.prog 78 #[v] w fun e w' => e = .returned (hashV (shaB xs)) ∧ Up w w' := by
  have HT := hid hT
  have HClone := hid (fun w' (hU : Up w w') => bClone_any v xs w' (hv.up hU) (by omega))
  have HBy := hid (padL_byt hB)
  obtain ⟨a0, cap, rfl, hcap1, hcap2⟩ := hv.shape
  obtain ⟨n, hn⟩ : ∃ n, xs.length = n := ⟨_, rfl⟩
  obtain ⟨Z, hZ⟩ : ∃ Z, padZ n = Z := ⟨_, rfl⟩
  obtain ⟨P, hP⟩ : ∃ P, padL xs = P := ⟨_, rfl⟩
  obtain ⟨N, hN⟩ : ∃ N, P.length / 64 = N := ⟨_, rfl⟩
  have HP : Hid (P = padTo xs Z ++ beL 8 (8 * n)) := hid (by rw [← hP, padL_eq, hn, hZ])
  have hPl : P.length = 64 * N := by
    have := padL_length xs
    rw [hP] at this
    omega
  have HPl := hid hPl
  have hNZ : 64 * N = n + 1 + Z + 8 := by
    rw [← hPl, HP.out, List.length_append, padTo_length, beL_length, hn]
  have HNZ := hid hNZ
  have HSha : Hid (shaB xs = outB (blocksS P N)) := hid (by rw [← hN, ← hP]; rfl)
  have hZ2 : ((n + 1 + Z) % 64 = 56 ∧ Z ≤ 63) ∧ ∀ z, z < Z → (n + 1 + z) % 64 ≠ 56 := by
    rw [← hZ]
    unfold padZ
    refine ⟨⟨by omega, by omega⟩, fun z hz => by omega⟩
  have HZ := hid hZ2
  have HLt := hid (fun z => padTo_length xs z)
  rw [hn] at HLt
  have HStep := hid (padTo_step xs)
  have HZero : Hid (xs ++ [128] = padTo xs 0) := hid (by simp [padTo])
  rw [hP] at HBy
  have HXN := hid hn
  rw [hn] at hl hcap1 HClone
  rw [hn]
  clear hT hv hB hn hZ hP hN hPl hNZ hZ2
  go_enter Tryz.func78, Tryz.ntmps78
  go_wp2_with fail
  refine (HClone.out _ ((Up.refl w).alloc _)).mono ?_
  rintro e w1 ⟨v1, rfl, hO1, hU1⟩
  have hO1 := hO1.mono (base' := w.heap.size + 1) (by simp)
  have hZ1 : Blk w1 w.heap.size 31 (arrK .u8 (fun _ => 0) 32) := (Blk.new rfl zero32).up hU1
  have hU1 := ((Up.refl w).alloc _).trans hU1
  obtain ⟨o, ho⟩ : ∃ o, w.heap.size = o := ⟨_, rfl⟩
  have l1 := hZ1.lt
  rw [ho] at hO1 hZ1 l1
  rw [ho]
  have HOo := hid ho
  go_wp2_with (at_builtin; refine wp_app infoU8 Tryz.underlying73 (by omega) rfl _ _ rfl (o + 1) rfl rfl (hO1.up ((Up.refl w1).alloc _)) (seq_new _ _ _) (by have := HXN.out; simp; omega) (by simp; omega) ?_; intro v2 w2 hO2 hg2)
  have hU2 := (hU1.alloc _).own (hO1.up ((Up.refl w1).alloc _)) hg2 (by omega)
  have hZ2 := (hZ1.alloc _).below (below_own (hO1.up ((Up.refl w1).alloc _)) hg2 (by simp; omega)) (by omega)
  rw [HZero.out] at hO2
  obtain ⟨p2, k2, rfl, _, _⟩ := hO2.shape
  have HLt0 : (padTo xs 0).length = n + 1 := HLt.out 0
  rw [HLt0] at hO2
  rw [HLt0]
  clear HLt0
  have HO2 := hid hO2
  have HZ2 := hid hZ2
  have HU2 := hid hU2
  clear hO1 hO2 hZ1 hZ2 hU1 hU2 hg2 l1 ho
  go_loopw [3] (fun vp wr => ∃ (z : Nat) (p : Option Addr) (c : Nat), z ≤ Z ∧ vp = .slice p (n + 1 + z) c ∧ Hid (OwnS 5 .u8 wr (o + 1) (.slice p (n + 1 + z) c) (padTo xs z)) ∧ Hid (Blk wr o 31 (arrK .u8 (fun _ => 0) 32)) ∧ Hid (Up w wr)) (fun vp _ => n + 1 + Z - lenOf vp)
  case atStart => exact ⟨0, _, _, by omega, rfl, HO2, HZ2, HU2⟩
  case round =>
    clear HO2 HZ2 HU2
    obtain ⟨z, p, c, hz, rfl, HO, HB, HU⟩ := hrel
    have hsz : o + 1 ≤ wr.heap.size := by have := HB.out.lt; omega
    by_cases hlt : z < Z
    · have HL := hid (HLt.out z)
      have HS := hid (HStep.out z)
      have HS1 := hid (HLt.out (z + 1))
      have hne := HZ.out.2 z hlt
      have hm : n + 1 + z ≤ n + 70 := by have := HZ.out.1.2; omega
      obtain ⟨m, hme⟩ : ∃ m, n + 1 + z = m := ⟨_, rfl⟩
      have HM := hid hme
      rw [hme] at HO HL hne hm
      rw [hme]
      clear hme
      have d1 : ((m : Int) % 64 != 56) = true := by simp; omega
      go_wp2_with (at_builtin; refine wp_app infoU8 Tryz.underlying73 (by omega) rfl _ _ rfl (o + 1) rfl rfl (HO.out.up ((Up.refl wr).alloc _)) (seq_new _ _ _) (by have := HL.out; simp; omega) (by simp; omega) ?_; intro v' w' hO' hg')
      have hU' := (HU.out.alloc _).own (HO.out.up ((Up.refl wr).alloc _)) hg' (by have := HOo.out; omega)
      have hB' := (HB.out.alloc _).below (below_own (HO.out.up ((Up.refl wr).alloc _)) hg' (by simp; omega)) (by omega)
      rw [HS.out] at hO'
      obtain ⟨p', k', rfl, _, _⟩ := hO'.shape
      rw [HS1.out] at hO'
      rw [HS1.out]
      have HO' := hid hO'
      have HB' := hid hB'
      have HU' := hid hU'
      clear hO' hB' hU' hg'
      go_wp2_with fail
      go_roundw
      case rel => exact ⟨z + 1, _, _, by omega, rfl, HO', HB', HU'⟩
      case measure =>
        have := HM.out
        simp
        omega
    · have hzZ : z = Z := by omega
      have HzZ := hid hzZ
      have HL := hid (HLt.out z)
      have d1 : (((n + 1 + z : Nat) : Int) % 64 != 56) = false := by
        have := HZ.out.1.1
        rw [← hzZ] at this
        simp
        omega
      have hm : n + 1 + z ≤ n + 70 := by have := HZ.out.1.2; omega
      clear hzZ
      obtain ⟨m, hme⟩ : ∃ m, n + 1 + z = m := ⟨_, rfl⟩
      have HM := hid hme
      rw [hme] at HO HL hm d1
      rw [hme]
      clear hme hlt hz
      go_wp2_with fail
      refine (count_any _ _).mono ?_
      rintro e w4 ⟨v4, rfl, hO4, hU4⟩
      have hsz4 := hU4.size
      have HPP : Hid (padTo xs z ++ beL 8 (8 * (n : Int)) = P) := hid (by rw [HzZ.out, HP.out])
      go_wp2_with (first
        | (at_builtin; refine wp_app infoU8 Tryz.underlying73 (by omega) rfl _ _ rfl (o + 1) rfl rfl (HO.out.up hU4) hO4.seq (by have := HL.out; simp [beL_length]; omega) (by omega) ?_; intro v5 w5 hO5 hg5; have hU5 := (HU.out.trans hU4).own (HO.out.up hU4) hg5 (by have := HOo.out; omega); have hB5 := (HB.out.up hU4).below (below_own (HO.out.up hU4) hg5 (by omega)) (by omega); rw [HPP.out] at hO5; obtain ⟨⟨tg, fg, hst⟩, -⟩ := HT.out.up hU5)
        | (refine wpList_load_row rfl 114 _ rfl 0 rfl _ (stA shaStart) _ _ (by assumption) Tryz.underlying114 rfl (by kernel_rfl) ?_)
        | (refine wpList_store_rowTo rfl 114 _ _ rfl rfl _ _ rfl rfl 114 _ (heap_alloc_new _ _) (by rw [stA_size]; kernel_rfl) (by rw [stA_size]; rfl) stA_one ?_; rw [World.setRow_alloc_new]))
      have hS5 := hO5.seq
      have hb5 : ∀ b off c', v5 = .slice (some ⟨b, off, none⟩) P.length c' → b < w5.heap.size := fun b off c' hv => by
        rw [hv] at hS5
        exact hS5.inside (by intro h; have ha := HPl.out; have hb := HNZ.out; rw [h] at ha; simp at ha; omega)
      obtain ⟨p5, k5, rfl, _, _⟩ := hO5.shape
      rw [HPl.out] at hS5 hb5
      rw [HPl.out]
      clear HO HB HU hO4 hU4 hg5 hsz hO5
      obtain ⟨q, hq⟩ : ∃ q, w5.heap.size = q := ⟨_, rfl⟩
      rw [hq]
      obtain ⟨w6, hw6⟩ : ∃ w6, w5.alloc (.cells (stA shaStart) 114) = w6 := ⟨_, rfl⟩
      have HQ6 : Hid (Blk w6 q 114 (stA (blocksS P 0))) := hid (by rw [← hw6]; exact Blk.new hq rfl)
      have HS6 : Hid (SeqAt .u8 w6 (.slice p5 (64 * N) k5) (P.drop (64 * 0))) := hid (by rw [← hw6]; exact hS5.up ((Up.refl w5).alloc _))
      have HB6 : Hid (Blk w6 o 31 (arrK .u8 (fun _ => 0) 32)) := hid (by rw [← hw6]; exact hB5.alloc _)
      have HU6 : Hid (Up w w6) := hid (by rw [← hw6]; exact hU5.alloc _)
      have HP6 : Hid (∀ b off, p5 = some ⟨b, off, none⟩ → b < q) := hid (fun b off h => by rw [← hq]; exact hb5 b off k5 (by rw [h]))
      have hoq : o < q := by have := hB5.lt; omega
      rw [hw6]
      clear hw6 hS5 hb5 hU5 hB5 hst hq d1
      go_loopw [3] (fun vp wr => ∃ (k : Nat) (p : Option Addr) (c : Nat), k ≤ N ∧ vp = .slice p (64 * N - 64 * k) c ∧ Hid (SeqAt .u8 wr (.slice p (64 * N - 64 * k) c) (P.drop (64 * k))) ∧ Hid (∀ b off, p = some ⟨b, off, none⟩ → b < q) ∧ Hid (Blk wr q 114 (stA (blocksS P k))) ∧ Hid (Blk wr o 31 (arrK .u8 (fun _ => 0) 32)) ∧ Hid (Up w wr)) (fun vp _ => lenOf vp)
      case atStart => exact ⟨0, _, _, by omega, rfl, HS6, HP6, HQ6, HB6, HU6⟩
      case round =>
        clear HS6 HP6 HQ6 HB6 HU6
        obtain ⟨k, p, c, hkN, rfl, HS, HPb, HQ, HB, HU⟩ := hrel
        by_cases hk : k < N
        · obtain ⟨b, off, cap', hsh, _⟩ := HS.out.cell (i := 0) (by rw [List.length_drop, HPl.out]; omega)
          simp only [Value.slice.injEq] at hsh
          obtain ⟨rfl, -, -⟩ := hsh
          obtain ⟨_, _, hsh2, hc1, hc2⟩ := HS.out.shape
          simp only [Value.slice.injEq] at hsh2
          obtain ⟨-, -, rfl⟩ := hsh2
          rw [List.length_drop, HPl.out] at hc1
          obtain ⟨S, hS⟩ : ∃ S, blocksS P k = S := ⟨_, rfl⟩
          have HSS : Hid (blocksS P (k + 1) = mixS (blkAt P k) S) := hid (by rw [blocksS, hS])
          rw [hS] at HQ
          have HMix := hid (fun w' (hU : Up wr w') => by
            have h64 : ((P.drop (64 * k)).take 64).length = 64 := by rw [List.length_take, List.length_drop, HPl.out]; omega
            have hm := mix_any S _ _ w' (HT.out.up (HU.out.trans hU)) ((HS.out.up hU).front (m := 64) (by omega)) h64 (fun j => byt_getD (fun x hx => HBy.out x (List.mem_of_mem_drop (List.mem_of_mem_take hx))) j)
            rw [mixS_cut (c := blkAt P k) (fun j hj => by simp [blkAt, List.getD_eq_getElem?_getD, hj])] at hm
            exact hm)
          have hm64 : 64 ≤ 64 * N - 64 * k := by omega
          have hm63 : 64 * N - 64 * k ≤ 1099511628000 := by have := HNZ.out; have := HZ.out.1.2; omega
          obtain ⟨m, hme⟩ : ∃ m, 64 * N - 64 * k = m := ⟨_, rfl⟩
          have HM := hid hme
          rw [hme] at HS hc1 hm64 hm63
          rw [hme]
          clear hme hS
          have c0 : wr.cell? ⟨q, 0, none⟩ = some (.int .u32 S.a) := HQ.out.val rfl
          have c1 : wr.cell? ⟨q, 1, none⟩ = some (.int .u32 S.b) := HQ.out.val rfl
          have c2 : wr.cell? ⟨q, 2, none⟩ = some (.int .u32 S.c) := HQ.out.val rfl
          have c3 : wr.cell? ⟨q, 3, none⟩ = some (.int .u32 S.d) := HQ.out.val rfl
          have c4 : wr.cell? ⟨q, 4, none⟩ = some (.int .u32 S.e) := HQ.out.val rfl
          have c5 : wr.cell? ⟨q, 5, none⟩ = some (.int .u32 S.f) := HQ.out.val rfl
          have c6 : wr.cell? ⟨q, 6, none⟩ = some (.int .u32 S.g) := HQ.out.val rfl
          have c7 : wr.cell? ⟨q, 7, none⟩ = some (.int .u32 S.h) := HQ.out.val rfl
          have z1 : (64 : Int) ≤ (c : Int) := by omega
          have z2 : 64 ≤ c := by omega
          go_wp2_with fail
          go_still_tail 3, (by kernel_rfl)
          change wpList _ _ _ _ _ wr.drew
          have hud := (Up.refl wr).drew
          have HQ2 := hid (HQ.out.up hud)
          generalize wr.drew = w7 at *
          go_wp2_with fail
          refine (HMix.out _ hud).mono ?_
          rintro e w8 ⟨rfl, hU8⟩
          have hQ8 := HQ2.out.up hU8
          have hS8 := HS.out.up (hud.trans hU8)
          have hB8 := HB.out.up (hud.trans hU8)
          have hU9 := HU.out.trans (hud.trans hU8)
          clear c0 c1 c2 c3 c4 c5 c6 c7 HQ HQ2 HS HB HU HMix hud
          by_cases hc : c = 64
          all_goals
            go_wp2_with (refine wpList_store_rowTo rfl 114 _ _ rfl rfl _ _ rfl rfl 114 _ hQ8 (by rw [stA_size]; kernel_rfl) (by rw [stA_size, stA_size]) stA_one ?_)
          · have hm : m = 64 := by omega
            go_roundw
            case rel => exact ⟨k + 1, some ⟨b, off, none⟩, 0, by omega, by rw [show 64 * N - 64 * (k + 1) = m - 64 by have := HM.out; omega], hid (by
              rw [show 64 * N - 64 * (k + 1) = 0 by have := HM.out; omega, List.drop_eq_nil_of_le (by have := HM.out; rw [HPl.out]; omega)]
              exact seq_zero _ _ (by omega)), HPb, hid (by rw [HSS.out]; exact hQ8.row _), hid (hB8.rowApart (by omega) _), hid (hU9.setRow (by have := HOo.out; omega) _)⟩
            case measure => simp; omega
          · go_roundw
            case rel => exact ⟨k + 1, some ⟨b, off + 64, none⟩, c - 64, by omega, by rw [show 64 * N - 64 * (k + 1) = m - 64 by have := HM.out; omega], hid (by
              rw [show 64 * N - 64 * (k + 1) = m - 64 by have := HM.out; omega, show 64 * (k + 1) = 64 * k + 64 by omega, ← List.drop_drop]
              exact (hS8.back hm64).below (below_setRow (Below.refl q w8) (Nat.le_refl q) _) (fun b' off' n' c' h => by
                simp only [Value.slice.injEq, Option.some.injEq, Addr.mk.injEq] at h
                obtain ⟨⟨rfl, -, -⟩, -, -⟩ := h
                exact HPb.out _ _ rfl)), hid (fun b' off' h => by
                simp only [Option.some.injEq, Addr.mk.injEq] at h
                obtain ⟨rfl, -, -⟩ := h
                exact HPb.out _ _ rfl), hid (by rw [HSS.out]; exact hQ8.row _), hid (hB8.rowApart (by omega) _), hid (hU9.setRow (by have := HOo.out; omega) _)⟩
            case measure => simp; omega
        · have hkN2 : k = N := by omega
          have HSha2 : Hid (shaB xs = outB (blocksS P k)) := hid (by rw [hkN2]; exact HSha.out)
          obtain ⟨S, hS⟩ : ∃ S, blocksS P k = S := ⟨_, rfl⟩
          rw [hS] at HQ HSha2
          have hm0 : 64 * N - 64 * k = 0 := by omega
          rw [hm0]
          clear hS hkN2 hm0 HS HPb hk
          go_wp2_with (refine wpList_load_row rfl 114 _ rfl q rfl 114 (stA S) (0, 0) _ ((Blk.alloc HQ.out _)) Tryz.underlying114 rfl (by rw [stA_size]; kernel_rfl) ?_)
          obtain ⟨f, hf⟩ : ∃ f : Nat → Int, outB S = f := ⟨_, rfl⟩
          have HF := hid hf
          rw [hf] at HSha2
          obtain ⟨g, hg⟩ : ∃ g, wr.heap.size = g := ⟨_, rfl⟩
          have hog : o < g := by have := HB.out.lt; omega
          rw [hg]
          clear hf
          go_loopw [38] (fun vi wr2 => ∃ i : Nat, i ≤ 8 ∧ vi = .int .i64 i ∧ Hid (Blk wr2 g 31 (arrK .u8 (pfill f (4 * i)) 32)) ∧ Hid (Blk wr2 o 31 (arrK .u8 (fun _ => 0) 32)) ∧ Hid (Up w wr2)) (fun vi _ => 8 - (intOf vi).toNat)
          case atStart => exact ⟨0, by omega, rfl, hid (Blk.new hg (zero32.trans (pfill_zero _ _ _))), hid (HB.out.alloc _), hid (HU.out.alloc _)⟩
          case round =>
            clear HB HU HQ
            obtain ⟨i, hi, rfl, HG, HB, HU⟩ := hrel
            by_cases hil : i < 8
            · have q3 : ∀ w', (Instr.index 114 (.agg (stA S)) (.int .i64 i)).run Tryz.prog w' = .ok (.int .u32 (S.get i)) w' := fun w' => index8 S i hil w'
              have HFS : Hid (∀ k, k < 4 → f (4 * i + k) = S.get i / 2 ^ (24 - 8 * k) % 256) := hid (fun k hk => by
                rw [← HF.out, outB, show (4 * i + k) / 4 = i by omega, show (4 * i + k) % 4 = k by omega])
              generalize S.get i = x at *
              go_wp2_with fail
              clear q3
              go_loopw [42] (fun vk wr3 => ∃ k : Nat, k ≤ 4 ∧ vk = .int .i64 k ∧ Hid (Blk wr3 g 31 (arrK .u8 (pfill f (4 * i + k)) 32)) ∧ Hid (Blk wr3 o 31 (arrK .u8 (fun _ => 0) 32)) ∧ Hid (Up w wr3)) (fun vk _ => 4 - (intOf vk).toNat)
              case atStart => exact ⟨0, by omega, rfl, HG, HB, HU⟩
              case round =>
                clear HG HB HU
                obtain ⟨k, hk, rfl, HG, HB, HU⟩ := hrel
                by_cases hkl : k < 4
                · have q1 := HG.out.val (pfill_at (k := .u8) (f := f) (i := 4 * i + k) (n := 32) (by omega))
                  have q2 := HG.out.thawed (4 * i + k)
                  have HP2 := hid (pfill_put .u8 f (4 * i + k) 32)
                  have HFK := hid (HFS.out k hkl)
                  go_wp2_with fail
                  go_roundw
                  case rel => exact ⟨k + 1, by omega, by go_num, hid (by rw [← Nat.add_assoc, ← HP2.out, HFK.out]; exact HG.out.wrote _ _), hid (HB.out.apart (by show o ≠ g; omega) _), hid (HU.out.setCell (by have := HOo.out; show w.heap.size ≤ g; omega) _)⟩
                  case measure => simp [intOf]; omega
                · have HG2 := hid HG.out
                  rw [show 4 * i + k = 4 * (i + 1) by omega] at HG2
                  go_wp2_with fail
                  go_roundw
                  case rel => exact ⟨i + 1, by omega, by go_num, HG2, HB, HU⟩
                  case measure => simp [intOf]; omega
            · have HG2 := hid HG.out
              rw [show 4 * i = 32 by omega, pfill_all] at HG2
              clear HG
              have HSV : Hid (hashV (shaB xs) = .agg (arrK .u8 f 32)) := hid (by rw [hashV, HSha2.out])
              go_wp2_with (first | (refine wpList_load_row rfl 31 _ rfl g rfl 31 (arrK .u8 f 32) (0, 0) _ HG2.out Tryz.underlying31 rfl (by rw [arrK_size]; kernel_rfl) ?_) | (refine wpList_store_rowTo rfl 31 _ _ rfl rfl _ _ rfl rfl 31 _ HB.out (by rw [arrK_size]; kernel_rfl) (by rw [arrK_size, arrK_size]) arrK_one ?_))
              refine bodyPost_ret (v := .agg (arrK .u8 f 32)) (results_cell_row rfl _ _ o 31 _ (0, 0) _ (by rfl) (HB.out.row _) Tryz.underlying31 rfl (by rw [arrK_size]; kernel_rfl)) rfl ⟨by rw [HSV.out], HU.out.setRow (by have := HOo.out; omega) _⟩
end Go.Proofs.YtdbhleinhpiohaaGreatDoor
