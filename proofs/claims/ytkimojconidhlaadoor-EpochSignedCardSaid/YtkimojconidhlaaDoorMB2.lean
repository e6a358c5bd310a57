/- A region that draws its order, whose operations only read, and whose callees leave all that was there as it was: one walk, in the order of the text. Package digest and its reference: a rotation; the words of a block. Package digest: the words of a block. Package digest: a block mixed into the state. Package digest: a number in bytes; bytes.Clone. -/
import Derived.Test.YtkimojconidhlaaDoorMB1
import Derived.BigQuiet
import Derived.Deep.QuietTactic
import Derived.BigRegion
import Derived.Deep.WholeRow
import Derived.Great.BuildSlice
namespace Go.Sp
open Go.RowKit

/-- A world in which nothing of w has turned. -/
structure UpFrom (w : World) where
  w' : World
  up : Up w w'

instance (w : World) : Nonempty (UpFrom w) := ⟨⟨w, Up.refl w⟩⟩

theorem UpFrom.frozen {w : World} {a : Addr} {x : Bool} (h : w.frozen? a = x) (ha : a.block < w.heap.size) (p : UpFrom w) : p.w'.frozen? a = x := by rw [p.up.frozen ha]; exact h

theorem wp_region_up {P : Program} {id : Nat} {Q : Exit → Act → World → Prop} {a : Act} {w : World} {l : List Oper} (hm : P.follows .mixedOrders = true) (hB : Region.lexB .any l.toArray = true)
    (h : wpQuiet P l.toArray (fun w' => ∃ p : UpFrom w, w' = p.w') (fun a' => ∀ w', (∃ p : UpFrom w, w' = p.w') → Q .normal a' w') l a) : (Code.region id l.toArray true).wp P Q a w :=
  wp_region_quiet (C := fun w' => ∃ p : UpFrom w, w' = p.w') hm hB ⟨⟨_, (Up.refl w).drew⟩, rfl⟩ (by simpa using h)

/-- A callee's contract, met in a world of the class. -/
theorem Calls.up_of {P : Program} {f : FuncId} {args : Array Value} {w : World} {p : UpFrom w} {v : Value}
    (h : Calls P f args p.w' fun e w' => e = .returned v ∧ Up p.w' w') : Calls P f args p.w' fun e w'' => e = .returned v ∧ ∃ q : UpFrom w, w'' = q.w' :=
  h.mono fun _ _ ⟨he, hu⟩ => ⟨he, ⟨_, p.up.trans hu⟩, rfl⟩

theorem Calls.up_same {P : Program} {f : FuncId} {args : Array Value} {w : World} {p : UpFrom w} {v : Value}
    (h : Calls P f args p.w' fun e w' => e = .returned v ∧ p.w' = w') : Calls P f args p.w' fun e w'' => e = .returned v ∧ ∃ q : UpFrom w, w'' = q.w' :=
  h.mono fun _ _ ⟨he, hu⟩ => ⟨he, p, hu.symm⟩
end Go.Sp
namespace Go.Proofs.YtkimojconidhlaaDoor
open Go.RowKit Go.Sp
set_option maxHeartbeats 1000000
set_option maxRecDepth 20000

theorem rotl_2 (x : Int) (w : World) :
    Calls Tryd.prog 98 #[.int .u32 x, .int .i64 (-2)] w fun e w' => e = .returned (.int .u32 (rotr x 2)) ∧ w = w' := by
  have k1 : bits BinOp.and IntKind.u64 (IntKind.u64.wrap (-2)) 31 = 30 := by kernel_rfl
  go_enter Tryd.func98, Tryd.ntmps98
  go_wp2
  go_ret
  exact ⟨by rw [rotr, bits_or_comm]; rfl, rfl⟩

theorem right_2 (x : Int) (w : World) :
    Calls Tryd.prog 91 #[.int .u32 x, .int .i64 2] w fun e w' => e = .returned (.int .u32 (rotr x 2)) ∧ w = w' := by
  have hR := hid (rotl_2 x w)
  generalize rotr x 2 = y at *
  go_enter Tryd.func91, Tryd.ntmps91
  go_wp2_with fail
  refine hR.out.mono ?_
  rintro e w' ⟨rfl, rfl⟩
  go_wp2
  go_ret
  exact ⟨rfl, rfl⟩

theorem rotl_6 (x : Int) (w : World) :
    Calls Tryd.prog 98 #[.int .u32 x, .int .i64 (-6)] w fun e w' => e = .returned (.int .u32 (rotr x 6)) ∧ w = w' := by
  have k1 : bits BinOp.and IntKind.u64 (IntKind.u64.wrap (-6)) 31 = 26 := by kernel_rfl
  go_enter Tryd.func98, Tryd.ntmps98
  go_wp2
  go_ret
  exact ⟨by rw [rotr, bits_or_comm]; rfl, rfl⟩

theorem right_6 (x : Int) (w : World) :
    Calls Tryd.prog 91 #[.int .u32 x, .int .i64 6] w fun e w' => e = .returned (.int .u32 (rotr x 6)) ∧ w = w' := by
  have hR := hid (rotl_6 x w)
  generalize rotr x 6 = y at *
  go_enter Tryd.func91, Tryd.ntmps91
  go_wp2_with fail
  refine hR.out.mono ?_
  rintro e w' ⟨rfl, rfl⟩
  go_wp2
  go_ret
  exact ⟨rfl, rfl⟩

theorem rotl_7 (x : Int) (w : World) :
    Calls Tryd.prog 98 #[.int .u32 x, .int .i64 (-7)] w fun e w' => e = .returned (.int .u32 (rotr x 7)) ∧ w = w' := by
  have k1 : bits BinOp.and IntKind.u64 (IntKind.u64.wrap (-7)) 31 = 25 := by kernel_rfl
  go_enter Tryd.func98, Tryd.ntmps98
  go_wp2
  go_ret
  exact ⟨by rw [rotr, bits_or_comm]; rfl, rfl⟩

theorem right_7 (x : Int) (w : World) :
    Calls Tryd.prog 91 #[.int .u32 x, .int .i64 7] w fun e w' => e = .returned (.int .u32 (rotr x 7)) ∧ w = w' := by
  have hR := hid (rotl_7 x w)
  generalize rotr x 7 = y at *
  go_enter Tryd.func91, Tryd.ntmps91
  go_wp2_with fail
  refine hR.out.mono ?_
  rintro e w' ⟨rfl, rfl⟩
  go_wp2
  go_ret
  exact ⟨rfl, rfl⟩

theorem rotl_11 (x : Int) (w : World) :
    Calls Tryd.prog 98 #[.int .u32 x, .int .i64 (-11)] w fun e w' => e = .returned (.int .u32 (rotr x 11)) ∧ w = w' := by
  have k1 : bits BinOp.and IntKind.u64 (IntKind.u64.wrap (-11)) 31 = 21 := by kernel_rfl
  go_enter Tryd.func98, Tryd.ntmps98
  go_wp2
  go_ret
  exact ⟨by rw [rotr, bits_or_comm]; rfl, rfl⟩

theorem right_11 (x : Int) (w : World) :
    Calls Tryd.prog 91 #[.int .u32 x, .int .i64 11] w fun e w' => e = .returned (.int .u32 (rotr x 11)) ∧ w = w' := by
  have hR := hid (rotl_11 x w)
  generalize rotr x 11 = y at *
  go_enter Tryd.func91, Tryd.ntmps91
  go_wp2_with fail
  refine hR.out.mono ?_
  rintro e w' ⟨rfl, rfl⟩
  go_wp2
  go_ret
  exact ⟨rfl, rfl⟩

theorem rotl_13 (x : Int) (w : World) :
    Calls Tryd.prog 98 #[.int .u32 x, .int .i64 (-13)] w fun e w' => e = .returned (.int .u32 (rotr x 13)) ∧ w = w' := by
  have k1 : bits BinOp.and IntKind.u64 (IntKind.u64.wrap (-13)) 31 = 19 := by kernel_rfl
  go_enter Tryd.func98, Tryd.ntmps98
  go_wp2
  go_ret
  exact ⟨by rw [rotr, bits_or_comm]; rfl, rfl⟩

theorem right_13 (x : Int) (w : World) :
    Calls Tryd.prog 91 #[.int .u32 x, .int .i64 13] w fun e w' => e = .returned (.int .u32 (rotr x 13)) ∧ w = w' := by
  have hR := hid (rotl_13 x w)
  generalize rotr x 13 = y at *
  go_enter Tryd.func91, Tryd.ntmps91
  go_wp2_with fail
  refine hR.out.mono ?_
  rintro e w' ⟨rfl, rfl⟩
  go_wp2
  go_ret
  exact ⟨rfl, rfl⟩

theorem rotl_17 (x : Int) (w : World) :
    Calls Tryd.prog 98 #[.int .u32 x, .int .i64 (-17)] w fun e w' => e = .returned (.int .u32 (rotr x 17)) ∧ w = w' := by
  have k1 : bits BinOp.and IntKind.u64 (IntKind.u64.wrap (-17)) 31 = 15 := by kernel_rfl
  go_enter Tryd.func98, Tryd.ntmps98
  go_wp2
  go_ret
  exact ⟨by rw [rotr, bits_or_comm]; rfl, rfl⟩

theorem right_17 (x : Int) (w : World) :
    Calls Tryd.prog 91 #[.int .u32 x, .int .i64 17] w fun e w' => e = .returned (.int .u32 (rotr x 17)) ∧ w = w' := by
  have hR := hid (rotl_17 x w)
  generalize rotr x 17 = y at *
  go_enter Tryd.func91, Tryd.ntmps91
  go_wp2_with fail
  refine hR.out.mono ?_
  rintro e w' ⟨rfl, rfl⟩
  go_wp2
  go_ret
  exact ⟨rfl, rfl⟩

theorem rotl_18 (x : Int) (w : World) :
    Calls Tryd.prog 98 #[.int .u32 x, .int .i64 (-18)] w fun e w' => e = .returned (.int .u32 (rotr x 18)) ∧ w = w' := by
  have k1 : bits BinOp.and IntKind.u64 (IntKind.u64.wrap (-18)) 31 = 14 := by kernel_rfl
  go_enter Tryd.func98, Tryd.ntmps98
  go_wp2
  go_ret
  exact ⟨by rw [rotr, bits_or_comm]; rfl, rfl⟩

theorem right_18 (x : Int) (w : World) :
    Calls Tryd.prog 91 #[.int .u32 x, .int .i64 18] w fun e w' => e = .returned (.int .u32 (rotr x 18)) ∧ w = w' := by
  have hR := hid (rotl_18 x w)
  generalize rotr x 18 = y at *
  go_enter Tryd.func91, Tryd.ntmps91
  go_wp2_with fail
  refine hR.out.mono ?_
  rintro e w' ⟨rfl, rfl⟩
  go_wp2
  go_ret
  exact ⟨rfl, rfl⟩

theorem rotl_19 (x : Int) (w : World) :
    Calls Tryd.prog 98 #[.int .u32 x, .int .i64 (-19)] w fun e w' => e = .returned (.int .u32 (rotr x 19)) ∧ w = w' := by
  have k1 : bits BinOp.and IntKind.u64 (IntKind.u64.wrap (-19)) 31 = 13 := by kernel_rfl
  go_enter Tryd.func98, Tryd.ntmps98
  go_wp2
  go_ret
  exact ⟨by rw [rotr, bits_or_comm]; rfl, rfl⟩

theorem right_19 (x : Int) (w : World) :
    Calls Tryd.prog 91 #[.int .u32 x, .int .i64 19] w fun e w' => e = .returned (.int .u32 (rotr x 19)) ∧ w = w' := by
  have hR := hid (rotl_19 x w)
  generalize rotr x 19 = y at *
  go_enter Tryd.func91, Tryd.ntmps91
  go_wp2_with fail
  refine hR.out.mono ?_
  rintro e w' ⟨rfl, rfl⟩
  go_wp2
  go_ret
  exact ⟨rfl, rfl⟩

theorem rotl_22 (x : Int) (w : World) :
    Calls Tryd.prog 98 #[.int .u32 x, .int .i64 (-22)] w fun e w' => e = .returned (.int .u32 (rotr x 22)) ∧ w = w' := by
  have k1 : bits BinOp.and IntKind.u64 (IntKind.u64.wrap (-22)) 31 = 10 := by kernel_rfl
  go_enter Tryd.func98, Tryd.ntmps98
  go_wp2
  go_ret
  exact ⟨by rw [rotr, bits_or_comm]; rfl, rfl⟩

theorem right_22 (x : Int) (w : World) :
    Calls Tryd.prog 91 #[.int .u32 x, .int .i64 22] w fun e w' => e = .returned (.int .u32 (rotr x 22)) ∧ w = w' := by
  have hR := hid (rotl_22 x w)
  generalize rotr x 22 = y at *
  go_enter Tryd.func91, Tryd.ntmps91
  go_wp2_with fail
  refine hR.out.mono ?_
  rintro e w' ⟨rfl, rfl⟩
  go_wp2
  go_ret
  exact ⟨rfl, rfl⟩

theorem rotl_25 (x : Int) (w : World) :
    Calls Tryd.prog 98 #[.int .u32 x, .int .i64 (-25)] w fun e w' => e = .returned (.int .u32 (rotr x 25)) ∧ w = w' := by
  have k1 : bits BinOp.and IntKind.u64 (IntKind.u64.wrap (-25)) 31 = 7 := by kernel_rfl
  go_enter Tryd.func98, Tryd.ntmps98
  go_wp2
  go_ret
  exact ⟨by rw [rotr, bits_or_comm]; rfl, rfl⟩

theorem right_25 (x : Int) (w : World) :
    Calls Tryd.prog 91 #[.int .u32 x, .int .i64 25] w fun e w' => e = .returned (.int .u32 (rotr x 25)) ∧ w = w' := by
  have hR := hid (rotl_25 x w)
  generalize rotr x 25 = y at *
  go_enter Tryd.func91, Tryd.ntmps91
  go_wp2_with fail
  refine hR.out.mono ?_
  rintro e w' ⟨rfl, rfl⟩
  go_wp2
  go_ret
  exact ⟨rfl, rfl⟩

end Go.Proofs.YtkimojconidhlaaDoor
namespace Go.Proofs.YtkimojconidhlaaDoor
open Go.RowKit Go.Sp
set_option maxHeartbeats 2000000
set_option maxRecDepth 20000

/-- The first j bytes of the i-th word. -/
def wordTo (b : Nat → Int) (i : Nat) : Nat → Int
  | 0 => 0
  | j + 1 => wordTo b i j * 256 + b (4 * i + j)

theorem wordTo_four (b : Nat → Int) (i : Nat) : wordTo b i 4 = wordB b i := by simp [wordTo, wordB]

theorem wordTo_range {b : Nat → Int} (h : Byt b) (i : Nat) : ∀ j, 0 ≤ wordTo b i j ∧ wordTo b i j < 256 ^ j
  | 0 => by simp [wordTo]
  | j + 1 => by
    have ih := wordTo_range h i j
    have hb := h (4 * i + j)
    have e : (256 : Int) ^ (j + 1) = 256 ^ j * 256 := Int.pow_succ _ _
    rw [wordTo, e]
    omega

theorem or_byte (x c : Int) (h0 : 0 ≤ x) (h1 : x < 16777216) (h2 : 0 ≤ c) (h3 : c ≤ 255) : bits .or .u32 (x * 256) c = x * 256 + c := by
  have := bits_join .u32 32 (by decide) (fun n a b => by rw [IntKind.wrap_u32]; omega) 8 (x := x * 256) (y := c) (by omega) (by omega) (by omega) (by omega) (by omega) (by omega)
  exact this

/-- The array of the words while it is filled: i words, and j bytes of the next one. -/
def wFill (b : Nat → Int) (i j : Nat) : Nat → Int := fun t => if t < i then wAt b t else if t = i then wordTo b i j else 0

def wPart (b : Nat → Int) (n : Nat) : Nat → Int := fun t => if t < n then wAt b t else 0

theorem zero64 : #[.int .u32 0, .int .u32 0, .int .u32 0, .int .u32 0, .int .u32 0, .int .u32 0, .int .u32 0, .int .u32 0, .int .u32 0, .int .u32 0, .int .u32 0, .int .u32 0, .int .u32 0, .int .u32 0, .int .u32 0, .int .u32 0,
    .int .u32 0, .int .u32 0, .int .u32 0, .int .u32 0, .int .u32 0, .int .u32 0, .int .u32 0, .int .u32 0, .int .u32 0, .int .u32 0, .int .u32 0, .int .u32 0, .int .u32 0, .int .u32 0, .int .u32 0, .int .u32 0,
    .int .u32 0, .int .u32 0, .int .u32 0, .int .u32 0, .int .u32 0, .int .u32 0, .int .u32 0, .int .u32 0, .int .u32 0, .int .u32 0, .int .u32 0, .int .u32 0, .int .u32 0, .int .u32 0, .int .u32 0, .int .u32 0,
    .int .u32 0, .int .u32 0, .int .u32 0, .int .u32 0, .int .u32 0, .int .u32 0, .int .u32 0, .int .u32 0, .int .u32 0, .int .u32 0, .int .u32 0, .int .u32 0, .int .u32 0, .int .u32 0, .int .u32 0, .int .u32 0] = arrK .u32 (fun _ => 0) 64 := by kernel_rfl

theorem wFill_zero (b : Nat → Int) (i : Nat) : arrK .u32 (wPart b i) 64 = arrK .u32 (wFill b i 0) 64 := arrK_congr fun t _ => by
  unfold wPart wFill wordTo
  split
  · rfl
  · split <;> rfl
theorem wFill_four (b : Nat → Int) {i : Nat} (hi : i < 16) : arrK .u32 (wFill b i 4) 64 = arrK .u32 (wPart b (i + 1)) 64 := arrK_congr fun t _ => by
  unfold wPart wFill
  by_cases h : t < i
  · rw [if_pos h, if_pos (by omega)]
  · rw [if_neg h]
    by_cases h2 : t = i
    · rw [if_pos h2, if_pos (by omega), wordTo_four, h2, wAt_low hi]
    · rw [if_neg h2, if_neg (by omega)]
theorem wFill_step (b : Nat → Int) (i j : Nat) : (arrK .u32 (wFill b i j) 64).setIfInBounds i (.int .u32 (wordTo b i j * 256 + b (4 * i + j))) = arrK .u32 (wFill b i (j + 1)) 64 := by
  rw [arrK_set]
  refine arrK_congr fun t _ => ?_
  unfold wFill
  by_cases h : t = i
  · subst h
    simp [wordTo]
  · simp [h]
theorem wPart_step (b : Nat → Int) (i : Nat) : (arrK .u32 (wPart b i) 64).setIfInBounds i (.int .u32 (wAt b i)) = arrK .u32 (wPart b (i + 1)) 64 := by
  rw [arrK_set]
  refine arrK_congr fun t _ => ?_
  unfold wPart
  by_cases h : t = i
  · subst h
    simp
  · have e1 : (t < i + 1) ↔ (t < i) := by omega
    simp [h, e1]
theorem wPart_all (b : Nat → Int) : arrK .u32 (wPart b 64) 64 = arrK .u32 (wAt b) 64 := arrK_congr fun t ht => by
  unfold wPart
  rw [if_pos ht]
theorem wPart_none (b : Nat → Int) : arrK .u32 (fun _ => 0) 64 = arrK .u32 (wPart b 0) 64 := arrK_congr fun t _ => by
  unfold wPart
  rw [if_neg (by omega)]
theorem wPart_at (b : Nat → Int) {i t : Nat} (h : t < i) (h2 : t < 64) : (arrK .u32 (wPart b i) 64)[t]? = some (.int .u32 (wAt b t)) := by
  rw [arrK_get h2, wPart, if_pos h]
theorem wPart_hole (b : Nat → Int) {i : Nat} (h2 : i < 64) : (arrK .u32 (wPart b i) 64)[i]? = some (.int .u32 0) := by
  rw [arrK_get h2, wPart, if_neg (by omega)]
theorem wFill_at (b : Nat → Int) {i j : Nat} (h2 : i < 64) : (arrK .u32 (wFill b i j) 64)[i]? = some (.int .u32 (wordTo b i j)) := by
  rw [arrK_get h2, wFill, if_neg (by omega), if_pos rfl]

theorem schedule_any (v : Value) (xs : List Int) (w : World) (hv : SeqAt .u8 w v xs) (hl : xs.length = 64) (hB : Byt fun j => xs.getD j 0) :
    Calls Tryd.prog 90 #[v] w fun e w' => e = .returned (.agg (arrK .u32 (wAt fun j => xs.getD j 0) 64)) ∧ Up w w' := by
  have HV := hid hv
  obtain ⟨b0, o0, c0, rfl, _⟩ := hv.cell (i := 0) (by omega)
  obtain ⟨_, cap, hshape, hcap1, hcap2⟩ := hv.shape
  simp only [Value.slice.injEq] at hshape
  obtain ⟨-, -, rfl⟩ := hshape
  rw [hl] at hcap1 HV
  rw [hl]
  have HL := hid hl
  obtain ⟨b, hb⟩ : ∃ b : Nat → Int, (fun j => xs.getD j 0) = b := ⟨_, rfl⟩
  rw [hb]
  rw [hb] at hB
  have Hb := hid hb
  have HB := hid hB
  clear hv hl hb hB
  go_enter Tryd.func90, Tryd.ntmps90
  go_wp2_with fail
  obtain ⟨o, ho⟩ : ∃ o, w.heap.size = o := ⟨_, rfl⟩
  rw [ho]
  go_loopw [12] (fun vi wr => ∃ i : Nat, i ≤ 16 ∧ vi = .int .i64 i ∧ Hid (Blk wr (o + 1) 154 (arrK .u32 (wPart b i) 64)) ∧ Hid (Blk wr o 154 (arrK .u32 (fun _ => 0) 64)) ∧ Hid (Up w wr)) (fun vi _ => 16 - (intOf vi).toNat)
  case atStart => exact ⟨0, by omega, rfl, hid (Blk.new (by simp [ho]) (zero64.trans (wPart_none b))), hid ((Blk.new ho zero64).alloc _), hid (((Up.refl w).alloc _).alloc _)⟩
  case round =>
    have HOo := hid ho
    clear ho
    obtain ⟨i, hi, rfl, HW, HR, HU⟩ := hrel
    by_cases hlt : i < 16
    · go_wp2_with fail
      go_loopw [23] (fun vj wr2 => ∃ j : Nat, j ≤ 4 ∧ vj = .int .i64 j ∧ Hid (Blk wr2 (o + 1) 154 (arrK .u32 (wFill b i j) 64)) ∧ Hid (Blk wr2 o 154 (arrK .u32 (fun _ => 0) 64)) ∧ Hid (Up w wr2)) (fun vj _ => 4 - (intOf vj).toNat)
      case atStart => exact ⟨0, by omega, rfl, hid (by rw [← wFill_zero]; exact HW.out), HR, HU⟩
      case round =>
        clear HW HR HU
        obtain ⟨j, hj, rfl, HW, HR, HU⟩ := hrel
        rename_i wr2 _
        by_cases hjl : j < 4
        · obtain ⟨b1, o1, c1, hsh, hx⟩ := (HV.out.up HU.out).cell (i := 4 * i + j) (by rw [HL.out]; omega)
          simp only [Value.slice.injEq, Option.some.injEq, Addr.mk.injEq] at hsh
          obtain ⟨⟨rfl, rfl, -⟩, -, -⟩ := hsh
          rw [← Nat.add_assoc, show xs.getD (4 * i + j) 0 = b (4 * i + j) from congrFun Hb.out _] at hx
          have hw := HW.out.val (wFill_at b (i := i) (j := j) (by omega))
          have hf := HW.out.thawed i
          have HS := hid (wFill_step b i j)
          have r1 := wordTo_range HB.out i j
          have r2 : (256 : Int) ^ j ≤ 16777216 := by
            have : j = 0 ∨ j = 1 ∨ j = 2 ∨ j = 3 := by omega
            rcases this with rfl | rfl | rfl | rfl <;> decide
          have r3 := HB.out (4 * i + j)
          generalize wordTo b i j = x at *
          generalize b (4 * i + j) = c at *
          have hor := or_byte x c r1.1 (by omega) r3.1 r3.2
          have hcm : c % 4294967296 = c := by omega
          have x0 := r1.1
          have x1 : x < 16777216 := by omega
          clear r1 r2 r3
          go_wp2_with fail
          go_roundw
          case rel => exact ⟨j + 1, by omega, by go_num, hid (by rw [← HS.out]; exact HW.out.wrote _ _), hid (HR.out.apart (by simp) _), hid (HU.out.setCell (by simp; have := HOo.out; omega) _)⟩
          case measure => simp [intOf]; omega
        · obtain rfl : j = 4 := by omega
          have HW2 := hid HW.out
          rw [wFill_four b hlt] at HW2
          clear HW hjl
          go_wp2_with fail
          go_roundw
          case rel => exact ⟨i + 1, by omega, by go_num, HW2, HR, HU⟩
          case measure => simp [intOf]; omega
    · have HW16 := hid HW.out
      rw [show i = 16 by omega] at HW16
      clear HW
      go_wp2_with fail
      go_loopw [7] (fun vt wr2 => ∃ t : Nat, 16 ≤ t ∧ t ≤ 64 ∧ vt = .int .i64 t ∧ Hid (Blk wr2 (o + 1) 154 (arrK .u32 (wPart b t) 64)) ∧ Hid (Blk wr2 o 154 (arrK .u32 (fun _ => 0) 64)) ∧ Hid (Up w wr2)) (fun vt _ => 64 - (intOf vt).toNat)
      case atStart => exact ⟨16, by omega, by omega, rfl, HW16, HR, HU⟩
      case round =>
        clear HW16 HR HU
        obtain ⟨t, ht0, ht, rfl, HW, HR, HU⟩ := hrel
        by_cases htl : t < 64
        · have q1 := HW.out.val (wPart_at b (i := t) (t := t - 15) (by omega) (by omega))
          have q2 := HW.out.val (wPart_at b (i := t) (t := t - 2) (by omega) (by omega))
          have q3 := HW.out.val (wPart_at b (i := t) (t := t - 16) (by omega) (by omega))
          have q4 := HW.out.val (wPart_at b (i := t) (t := t - 7) (by omega) (by omega))
          have q5 := HW.out.val (wPart_hole b (i := t) (by omega))
          have q6 := HW.out.thawed t
          have HS := hid (wPart_step b t)
          have HQ : Hid (∀ w3, Blk w3 (o + 1) 154 (arrK .u32 (wPart b t) 64) → w3.cell? ⟨o + 1, t - 16, none⟩ = some (.int .u32 (wAt b (t - 16))) ∧ w3.cell? ⟨o + 1, t - 7, none⟩ = some (.int .u32 (wAt b (t - 7))) ∧ w3.cell? ⟨o + 1, t, none⟩ = some (.int .u32 0)) := hid fun w3 h => ⟨h.val (wPart_at b (by omega) (by omega)), h.val (wPart_at b (by omega) (by omega)), h.val (wPart_hole b (by omega))⟩
          have HE := hid (wAt_high (b := b) ht0)
          have z1 : (15 : Int) ≤ t := by omega
          have z2 : (t : Int) < 64 := by omega
          generalize wAt b (t - 15) = x at *
          generalize wAt b (t - 2) = y at *
          generalize wAt b (t - 16) = p at *
          generalize wAt b (t - 7) = q at *
          go_wp2_with fail
          go_quiet (fail)
          go_wp2_with (go_at_call 91; first | ((with_reducible refine (right_7 _ _).mono ?_); rintro e w' ⟨rfl, rfl⟩) | ((with_reducible refine (right_18 _ _).mono ?_); rintro e w' ⟨rfl, rfl⟩) | ((with_reducible refine (right_17 _ _).mono ?_); rintro e w' ⟨rfl, rfl⟩) | ((with_reducible refine (right_19 _ _).mono ?_); rintro e w' ⟨rfl, rfl⟩))
          have hud := (Up.refl wr).drewN nq
          have HW2 := hid (HW.out.up hud)
          have HR2 := hid (HR.out.up hud)
          have HU2 := hid (HU.out.trans hud)
          clear hud q1 q2 q3 q4 q5 q6
          generalize wr.drewN nq = w3 at *
          obtain ⟨q3, q4, q5⟩ := HQ.out w3 HW2.out
          have q6 := HW2.out.thawed t
          clear HQ HW HR HU
          obtain ⟨s0, hs0⟩ : ∃ s0, sg0 x = s0 := ⟨_, rfl⟩
          obtain ⟨s1, hs1⟩ : ∃ s1, sg1 y = s1 := ⟨_, rfl⟩
          rw [show bits BinOp.xor IntKind.u32 (bits BinOp.xor IntKind.u32 (rotr x 7) (rotr x 18)) (x / 8) = s0 from hs0]
          rw [show bits BinOp.xor IntKind.u32 (bits BinOp.xor IntKind.u32 (rotr y 17) (rotr y 19)) (y / 1024) = s1 from hs1]
          rw [hs0, hs1] at HE
          have HE2 : Hid (wAt b t = (p + s0 + q + s1) % 4294967296) := hid (by rw [HE.out]; simp only [plus, IntKind.wrap_u32]; omega)
          clear hs0 hs1 HE
          go_region
          all_goals (
            go_wp2_with fail
            go_roundw
            case rel => exact ⟨t + 1, by omega, by omega, by go_num, hid (by rw [← HS.out, HE2.out]; exact (HW2.out.wrote _ _).up (Up.refl _).drew), hid ((HR2.out.apart (by simp) _).up (Up.refl _).drew), hid (HU2.out.setCell (by have := HOo.out; show w.heap.size ≤ o + 1; omega) _).drew⟩
            case measure => simp [intOf]; omega)
        · obtain rfl : t = 64 := by omega
          have HW2 := hid HW.out
          rw [wPart_all] at HW2
          clear HW htl ht ht0
          go_wp2_with (first | (refine wpList_load_row rfl 154 _ rfl _ rfl 154 _ (0, 0) _ HW2.out Tryd.underlying154 rfl (by rw [arrK_size]; kernel_rfl) ?_) | (refine wpList_store_row rfl 154 _ _ rfl _ _ rfl rfl 154 _ HR.out (by rw [arrK_size]; kernel_rfl) (by rw [arrK_size, arrK_size]) arrK_one ?_))
          refine bodyPost_ret (v := .agg (arrK .u32 (wAt b) 64)) (results_cell_row rfl _ _ o 154 _ (0, 0) _ (by rfl) (HR.out.row _) Tryd.underlying154 rfl (by rw [arrK_size]; kernel_rfl)) rfl ⟨rfl, HU.out.setRow (by have := HOo.out; omega) _⟩
end Go.Proofs.YtkimojconidhlaaDoor
namespace Go.Proofs.YtkimojconidhlaaDoor
open Go.RowKit Go.Sp
set_option maxHeartbeats 2000000
set_option maxRecDepth 20000

/-- The cells of a state. -/
def stA (s : St) : Array Value := #[.int .u32 s.a, .int .u32 s.b, .int .u32 s.c, .int .u32 s.d, .int .u32 s.e, .int .u32 s.f, .int .u32 s.g, .int .u32 s.h]

theorem stA_arr (s : St) : stA s = arrK .u32 s.get 8 := by kernel_rfl

/-- The variables of package digest hold what the program's text lays. -/
def TabS (w : World) : Prop :=
  (∃ t fr, w.heap[0]? = some (.cells (stA shaStart) t fr)) ∧ ∀ i, i < 64 → w.cell? ⟨2, i, none⟩ = some (.int .u32 (shaK.getD i 0))

theorem TabS.up {w w' : World} (h : TabS w) (hU : Up w w') : TabS w' := by
  obtain ⟨⟨t, fr, h1⟩, h2⟩ := h
  exact ⟨⟨t, fr, by rw [hU.block (Array.getElem?_eq_some_iff.1 h1).1]; exact h1⟩, fun i hi => by rw [hU.cell (cell_in (h2 i hi))]; exact h2 i hi⟩

theorem index8 (s : St) : ∀ (i : Nat) (_ : i < 8) (w : World), (Instr.index 134 (.agg (stA s)) (.int .i64 i)).run Tryd.prog w = .ok (.int .u32 (s.get i)) w
  | 0, _, _ => by kernel_rfl
  | 1, _, _ => by kernel_rfl
  | 2, _, _ => by kernel_rfl
  | 3, _, _ => by kernel_rfl
  | 4, _, _ => by kernel_rfl
  | 5, _, _ => by kernel_rfl
  | 6, _, _ => by kernel_rfl
  | 7, _, _ => by kernel_rfl

theorem zero8 : #[.int .u32 0, .int .u32 0, .int .u32 0, .int .u32 0, .int .u32 0, .int .u32 0, .int .u32 0, .int .u32 0] = arrK .u32 (fun _ => 0) 8 := by kernel_rfl

/-- The state while the sums are laid into it. -/
def sMix (s v : St) (i : Nat) : Nat → Int := fun j => if j < i then plus (s.get j) (v.get j) else s.get j

theorem sMix_zero (s v : St) : stA s = arrK .u32 (sMix s v 0) 8 := by
  rw [stA_arr]
  exact arrK_congr fun j _ => by simp [sMix]
theorem sMix_at (s v : St) {i : Nat} (hi : i < 8) : (arrK .u32 (sMix s v i) 8)[i]? = some (.int .u32 (s.get i)) := by
  rw [arrK_get hi, sMix, if_neg (by omega)]
theorem sMix_step (s v : St) (i : Nat) : (arrK .u32 (sMix s v i) 8).setIfInBounds i (.int .u32 (plus (s.get i) (v.get i))) = arrK .u32 (sMix s v (i + 1)) 8 := by
  rw [arrK_set]
  refine arrK_congr fun t _ => ?_
  unfold sMix
  by_cases h : t = i
  · subst h
    simp
  · have e1 : (t < i + 1) ↔ (t < i) := by omega
    simp [h, e1]
theorem sMix_all (b : Nat → Int) (s : St) : arrK .u32 (sMix s (rnds b s 64) 8) 8 = stA (mixS b s) := by
  rw [stA_arr]
  refine arrK_congr fun t ht => ?_
  rw [sMix, if_pos ht, mixS_get]

theorem u32_not : (if IntKind.u32.signed = true then (-1 : Int) else IntKind.u32.max) = 4294967295 := by decide

theorem same_turn' {P : Program} {f : FuncId} {args : Array Value} {w : World} {v : Value} (h : Calls P f args w fun e w' => e = .returned v ∧ w = w') : Calls P f args w fun e w' => e = .returned v ∧ w' = w :=
  h.mono fun _ _ ⟨a, b⟩ => ⟨a, b.symm⟩

theorem mix_any (s : St) (v : Value) (xs : List Int) (w : World) (hT : TabS w) (hv : SeqAt .u8 w v xs) (hl : xs.length = 64) (hB : Byt fun j => xs.getD j 0) :
    Calls Tryd.prog 73 #[.agg (stA s), v] w fun e w' => e = .returned (.agg (stA (mixS (fun j => xs.getD j 0) s))) ∧ Up w w' := by
  have HT := hid hT
  have HSch := hid (fun w' (hU : Up w w') => schedule_any v xs w' (hv.up hU) hl hB)
  obtain ⟨a0, cap, rfl, _, _⟩ := hv.shape
  obtain ⟨b, hb⟩ : ∃ b : Nat → Int, (fun j => xs.getD j 0) = b := ⟨_, rfl⟩
  rw [hb] at HSch
  rw [hb]
  clear hT hv hl hB hb
  obtain ⟨R, hR⟩ : ∃ R, stA (mixS b s) = R := ⟨_, rfl⟩
  rw [hR]
  have HR := hid hR
  clear hR
  have HA := hid (stA_arr s)
  have HE := hid (rfl : s = ⟨s.a, s.b, s.c, s.d, s.e, s.f, s.g, s.h⟩)
  unfold stA
  go_enter Tryd.func73, Tryd.ntmps73
  go_wp2_with fail
  refine (HSch.out _ (((Up.refl w).alloc _).alloc _)).mono ?_
  rintro e w1 ⟨rfl, hU1⟩
  obtain ⟨o, ho⟩ : ∃ o, w.heap.size = o := ⟨_, rfl⟩
  have HOo := hid ho
  rw [ho]
  have hS1 : Blk w1 o 134 (stA s) := ((Blk.new ho rfl).alloc _).up hU1
  have hZ1 : Blk w1 (o + 1) 134 (arrK .u32 (fun _ => 0) 8) := (Blk.new (by simp [ho]) zero8).up hU1
  have hU2 := ((((Up.refl w).alloc _).alloc _).trans hU1).alloc (.cells (arrK .u32 (wAt b) 64) 154)
  clear hU1 ho
  go_wp2_with (first | (refine wpList_store_rowTo rfl 154 _ _ rfl rfl _ _ rfl rfl 154 _ (heap_alloc_new _ _) (by rw [arrK_size]; kernel_rfl) (by rw [arrK_size]; rfl) arrK_one ?_; rw [World.setRow_alloc_new]))
  obtain ⟨g, hg⟩ : ∃ g, w1.heap.size = g := ⟨_, rfl⟩
  rw [hg]
  obtain ⟨w2, hw2⟩ : ∃ w2, w1.alloc (.cells (arrK .u32 (wAt b) 64) 154) = w2 := ⟨_, rfl⟩
  have hW2 : Blk w2 g 154 (arrK .u32 (wAt b) 64) := by rw [← hw2]; exact Blk.new hg rfl
  have hS2 : Blk w2 o 134 (stA s) := by rw [← hw2]; exact hS1.alloc _
  have hZ2 : Blk w2 (o + 1) 134 (arrK .u32 (fun _ => 0) 8) := by rw [← hw2]; exact hZ1.alloc _
  have l1 := hS1.lt
  have l2 := hZ1.lt
  rw [hg] at l1 l2
  rw [hw2] at hU2
  rw [hw2]
  clear hw2 hS1 hZ1 hg
  have c0 := hS2.val (i := 0) rfl
  have c1 := hS2.val (i := 1) rfl
  have c2 := hS2.val (i := 2) rfl
  have c3 := hS2.val (i := 3) rfl
  have c4 := hS2.val (i := 4) rfl
  have c5 := hS2.val (i := 5) rfl
  have c6 := hS2.val (i := 6) rfl
  have c7 := hS2.val (i := 7) rfl
  go_quiet (fail)
  have hud := (Up.refl w2).drewN nq
  have HW := hid (hW2.up hud)
  have HS := hid (hS2.up hud)
  have HZ := hid (hZ2.up hud)
  have HU := hid (hU2.trans hud)
  clear hud c0 c1 c2 c3 c4 c5 c6 c7 hW2 hS2 hZ2 hU2
  generalize w2.drewN nq = w3 at *
  go_wp2_with fail
  go_loopw [6, 7, 8, 9, 10, 11, 12, 13, 37] (fun v0 v1 v2 v3 v4 v5 v6 v7 vt wr => ∃ (t : Nat) (A B C D E F G H : Int), t ≤ 64 ∧ vt = .int .i64 t ∧ v0 = .int .u32 A ∧ v1 = .int .u32 B ∧ v2 = .int .u32 C ∧ v3 = .int .u32 D ∧ v4 = .int .u32 E ∧ v5 = .int .u32 F ∧ v6 = .int .u32 G ∧ v7 = .int .u32 H ∧
      Hid (rnds b s t = ⟨A, B, C, D, E, F, G, H⟩) ∧ Hid (Blk wr g 154 (arrK .u32 (wAt b) 64)) ∧ Hid (Blk wr o 134 (stA s)) ∧ Hid (Blk wr (o + 1) 134 (arrK .u32 (fun _ => 0) 8)) ∧ Hid (Up w wr)) (fun _ _ _ _ _ _ _ _ vt _ => 64 - (intOf vt).toNat)
  case atStart => exact ⟨0, _, _, _, _, _, _, _, _, by omega, rfl, rfl, rfl, rfl, rfl, rfl, rfl, rfl, rfl, hid rfl, HW, HS, HZ, HU⟩
  case round =>
    clear HW HS HZ HU
    obtain ⟨t, A, B, C, D, E, F, G, H, ht, rfl, rfl, rfl, rfl, rfl, rfl, rfl, rfl, rfl, HX, HW, HS, HZ, HU⟩ := hrel
    by_cases hlt : t < 64
    · have q1 := HW.out.val (arrK_get hlt)
      have q2 := (HT.out.up HU.out).2 t hlt
      have HN : Hid (rnds b s (t + 1) = rnd ⟨A, B, C, D, E, F, G, H⟩ (shaK.getD t 0) (wAt b t)) := hid (by rw [rnds, HX.out])
      have z2 : (t : Int) < 64 := by omega
      generalize wAt b t = W at *
      generalize shaK.getD t 0 = K at *
      go_wp2_with fail
      go_quiet ((go_at_call 91; first | ((with_reducible (show Calls _ _ #[_, .int .i64 6] _ _)); exact Calls.quiet_of_same (same_turn' (right_6 _ _))) | ((with_reducible (show Calls _ _ #[_, .int .i64 11] _ _)); exact Calls.quiet_of_same (same_turn' (right_11 _ _))) | ((with_reducible (show Calls _ _ #[_, .int .i64 25] _ _)); exact Calls.quiet_of_same (same_turn' (right_25 _ _)))))
      have hud := (Up.refl wr).drewN nq
      have HW2 := hid (HW.out.up hud)
      have HS2 := hid (HS.out.up hud)
      have HZ2 := hid (HZ.out.up hud)
      have HU2 := hid (HU.out.trans hud)
      clear hud q1 q2 HW HS HZ HU
      generalize wr.drewN nq = w4 at *
      go_wp2_with (go_at_call 91; first | ((with_reducible (show Calls _ _ #[_, .int .i64 2] _ _)); refine (right_2 _ _).mono ?_; rintro e w' ⟨rfl, rfl⟩) | ((with_reducible (show Calls _ _ #[_, .int .i64 13] _ _)); refine (right_13 _ _).mono ?_; rintro e w' ⟨rfl, rfl⟩) | ((with_reducible (show Calls _ _ #[_, .int .i64 22] _ _)); refine (right_22 _ _).mono ?_; rintro e w' ⟨rfl, rfl⟩))
      go_roundw
      case rel => exact ⟨t + 1, _, _, _, _, _, _, _, _, by omega, by go_num, rfl, rfl, rfl, rfl, rfl, rfl, rfl, rfl, hid (by rw [HN.out]; simp only [rnd, rndX, rndY, bs0, bs1, chs, maj, plus, u32_not, IntKind.wrap_u32, St.mk.injEq]; refine ⟨?_, trivial, trivial, trivial, ?_, trivial, trivial, trivial⟩ <;> omega), HW2, HS2, HZ2, HU2⟩
      case measure => simp [intOf]; omega
    · obtain ⟨V, hV⟩ : ∃ V : St, (⟨A, B, C, D, E, F, G, H⟩ : St) = V := ⟨_, rfl⟩
      have HV : Hid (rnds b s 64 = V) := hid (by rw [← hV, ← HX.out, show t = 64 by omega])
      have HVV := hid hV
      have HS3 := hid HS.out
      rw [sMix_zero s V] at HS3
      clear HX HW HS hV
      go_wp2_with fail
      go_loopw [109] (fun vi wr => ∃ i : Nat, i ≤ 8 ∧ vi = .int .i64 i ∧ Hid (Blk wr o 134 (arrK .u32 (sMix s V i) 8)) ∧ Hid (Blk wr (o + 1) 134 (arrK .u32 (fun _ => 0) 8)) ∧ Hid (Up w wr)) (fun vi _ => 8 - (intOf vi).toNat)
      case atStart => exact ⟨0, by omega, rfl, HS3, HZ, HU⟩
      case round =>
        clear HS3 HZ HU
        obtain ⟨i, hi, rfl, HS, HZ, HU⟩ := hrel
        by_cases hil : i < 8
        · have q1 := HS.out.val (sMix_at s V hil)
          have q2 := HS.out.thawed i
          have q3 : ∀ w', (Instr.index 134 (.agg #[.int .u32 A, .int .u32 B, .int .u32 C, .int .u32 D, .int .u32 E, .int .u32 F, .int .u32 G, .int .u32 H]) (.int .i64 i)).run Tryd.prog w' = .ok (.int .u32 (V.get i)) w' := fun w' => by rw [← HVV.out]; exact index8 ⟨A, B, C, D, E, F, G, H⟩ i hil w'
          have HN := hid (sMix_step s V i)
          generalize s.get i = x at *
          generalize V.get i = y at *
          go_wp2_with fail
          go_roundw
          case rel => exact ⟨i + 1, by omega, by go_num, hid (by rw [← HN.out, show plus x y = (x + y) % 4294967296 from IntKind.wrap_u32 _]; exact HS.out.wrote _ _), hid (HZ.out.apart (by simp) _), hid (HU.out.setCell (by have := HOo.out; show w.heap.size ≤ o; omega) _)⟩
          case measure => simp [intOf]; omega
        · have HR2 : Hid (arrK .u32 (sMix s V i) 8 = R) := hid (by rw [show i = 8 by omega, ← HV.out, sMix_all]; exact HR.out)
          have HS4 := hid HS.out
          rw [HR2.out] at HS4
          have HSz : Hid (R.size = 8 ∧ R.all (·.oneCell') = true) := hid ⟨by rw [← HR2.out, arrK_size], by rw [← HR2.out]; exact arrK_one⟩
          clear HS HR2
          go_wp2_with (first | (refine wpList_load_row rfl 134 _ rfl _ rfl 134 _ (0, 0) _ HS4.out Tryd.underlying134 rfl (by rw [HSz.out.1]; kernel_rfl) ?_) | (refine wpList_store_rowTo rfl 134 _ _ rfl rfl _ _ rfl rfl 134 _ HZ.out (by rw [HSz.out.1]; kernel_rfl) (by rw [arrK_size, HSz.out.1]) HSz.out.2 ?_))
          refine bodyPost_ret (v := .agg R) (results_cell_row rfl _ _ (o + 1) 134 _ (0, 0) _ (by rfl) (HZ.out.row _) Tryd.underlying134 rfl (by rw [HSz.out.1]; kernel_rfl)) rfl ⟨rfl, HU.out.setRow (by have := HOo.out; omega) _⟩
end Go.Proofs.YtkimojconidhlaaDoor
namespace Go.Proofs.YtkimojconidhlaaDoor
open Go.RowKit Go.Sp
set_option maxHeartbeats 2000000
set_option maxRecDepth 20000

theorem infoU8 : (Tryd.prog.info? 5).map (fun i => (i.zero, i.size, i.bytes)) = some (some (.int .u8 0), 1, 1) := by kernel_rfl

theorem count_any (n : Int) (w : World) :
    Calls Tryd.prog 72 #[.int .u64 n] w fun e w' => ∃ v, e = .returned v ∧ OwnS 5 .u8 w' w.heap.size v (beL 8 n) ∧ Up w w' := by
  have hmk : ∀ W, (Instr.makeSlice 50 (.int .i64 8) (.int .i64 8)).run Tryd.prog W = .ok (.slice (some ⟨W.heap.size, 0, none⟩) 8 8) (W.alloc (.cells #[.int .u8 0, .int .u8 0, .int .u8 0, .int .u8 0, .int .u8 0, .int .u8 0, .int .u8 0, .int .u8 0] 5)) := fun _ => by kernel_rfl
  obtain ⟨f, hf⟩ : ∃ f : Nat → Int, (fun i => n / 2 ^ (8 * (8 - 1 - i)) % 256) = f := ⟨_, rfl⟩
  have HL : Hid (beL 8 n = (List.range 8).map f) := hid (by rw [← hf]; rfl)
  have HF := hid hf
  clear hf
  go_enter Tryd.func72, Tryd.ntmps72
  go_wp2_with fail
  clear hmk
  obtain ⟨o, ho⟩ : ∃ o, w.heap.size = o := ⟨_, rfl⟩
  rw [ho]
  go_loopw [8] (fun vi wr => ∃ i : Nat, i ≤ 8 ∧ vi = .int .i64 i ∧ Hid (Blk wr o 5 (arrK .u8 (pfill f i) 8)) ∧ Hid (Up w wr)) (fun vi _ => 8 - (intOf vi).toNat)
  case atStart => exact ⟨0, by omega, rfl, hid (Blk.new ho ((by kernel_rfl : _ = arrK .u8 (fun _ => 0) 8).trans (pfill_zero _ _ _))), hid ((Up.refl w).alloc _)⟩
  case round =>
    have HOo := hid ho
    clear ho
    obtain ⟨i, hi, rfl, HB, HU⟩ := hrel
    by_cases hlt : i < 8
    · have q1 := HB.out.val (pfill_at hlt)
      have q2 := HB.out.thawed i
      have HP := hid (pfill_put .u8 f i 8)
      have hfi : f i = n / 2 ^ (56 - 8 * i) % 256 := by rw [← HF.out, show 56 - 8 * i = 8 * (8 - 1 - i) by omega]
      have HFI := hid hfi
      clear hfi
      go_wp2_with fail
      go_roundw
      case rel => exact ⟨i + 1, by omega, by go_num, hid (by rw [← HP.out, HFI.out]; exact HB.out.wrote _ _), hid (HU.out.setCell (by have := HOo.out; show w.heap.size ≤ o; omega) _)⟩
      case measure => simp [intOf]; omega
    · have HL2 : Hid ((List.range 8).map f = beL 8 n) := hid HL.out.symm
      have HB2 := hid HB.out
      rw [show i = 8 by omega, pfill_all] at HB2
      go_wp2
      go_ret
      exact ⟨_, rfl, by rw [HL.out]; exact HB2.out.own (by have := HOo.out; omega) (by omega), HU.out⟩

theorem bClone_any (v : Value) (xs : List Int) (w : World) (hv : SeqAt .u8 w v xs) (hl : xs.length ≤ 1099511627776) :
    Calls Tryd.prog 71 #[v] w fun e w' => ∃ v', e = .returned v' ∧ OwnS 5 .u8 w' w.heap.size v' xs ∧ Up w w' := by
  have HV := hid hv
  obtain ⟨a, cap, rfl, h1, h2, h3, _⟩ := hv
  cases a with
  | none =>
    have hc := h3 rfl
    subst hc
    have hx : xs = [] := List.length_eq_zero_iff.1 (by omega)
    subst hx
    have hnil := fun w' => Lib.run_eql_slice_nil (P := Tryd.prog) w' 50 5 none 0 0 0 0 Tryd.underlying50
    go_enter Tryd.func71, Tryd.ntmps71
    go_wp2
    go_ret
    exact ⟨_, rfl, own_none, Up.refl w⟩
  | some a =>
    clear h3
    have hnil := fun w' => Lib.run_eql_slice_nil (P := Tryd.prog) w' 50 5 (some a) xs.length cap 0 0 Tryd.underlying50
    go_enter Tryd.func71, Tryd.ntmps71
    go_wp2_with (at_builtin; refine wp_app infoU8 Tryd.underlying50 (by omega) rfl _ _ rfl w.heap.size rfl rfl (own_empty (Blk.new rfl rfl) (Nat.le_refl _)) (HV.out.up ((Up.refl w).alloc _)) (by simp; omega) (by simp) ?_; intro v' w' ho hg)
    go_ret
    exact ⟨v', rfl, ho, Up.own ((Up.refl w).alloc _) (own_empty (e := 5) (k := .u8) (Blk.new rfl rfl) (Nat.le_refl _)) hg (Nat.le_refl _)⟩
end Go.Proofs.YtkimojconidhlaaDoor
