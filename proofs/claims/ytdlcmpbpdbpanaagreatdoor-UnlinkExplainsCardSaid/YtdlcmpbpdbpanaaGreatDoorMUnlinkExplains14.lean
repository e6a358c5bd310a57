/- Blocks that are known whole; rows of numbers. Over any program. Package digest and its reference: a rotation; the words of a block. -/
import Derived.Test.YtdlcmpbpdbpanaaGreatDoorMUnlinkExplains13
import Derived.Test.YtdlcmpbpdbpanaaGreatDoorMUnlinkExplains2
import Derived.Test.YtdlcmpbpdbpanaaGreatDoorMUnlinkExplains10
import Derived.Laws.Tables
import Derived.Laws.Rows
import Derived.Deep.QuietTactic
import Derived.BigRegion
import Derived.Deep.WholeRow
namespace Go.Sp
open Go.RowKit

/-- A block that is known whole. -/
def Blk (w : World) (g : Nat) (t : TypeId) (cs : Array Value) : Prop := w.heap[g]? = some (.cells cs t (0, 0))

section
variable {w w' : World} {g : Nat} {t : TypeId} {cs : Array Value}
theorem Blk.lt (h : Blk w g t cs) : g < w.heap.size := (Array.getElem?_eq_some_iff.1 h).1
theorem Blk.read (h : Blk w g t cs) (i : Nat) : w.cell? ⟨g, i, none⟩ = cs[i]? := by
  have h1 : w.heap[g]? = some (.cells cs t (0, 0)) := h
  simp [World.cell?, h1]
theorem Blk.val (h : Blk w g t cs) {i : Nat} {v : Value} (hv : cs[i]? = some v) : w.cell? ⟨g, i, none⟩ = some v := by rw [h.read i]; exact hv
theorem Blk.thawed (h : Blk w g t cs) (i : Nat) : w.frozen? ⟨g, i, none⟩ = false := by
  have h1 : w.heap[g]? = some (.cells cs t (0, 0)) := h
  simp [World.frozen?, h1]
theorem Blk.up (h : Blk w g t cs) (hU : Up w w') : Blk w' g t cs := (hU.block h.lt).trans h
theorem Blk.alloc (h : Blk w g t cs) (o : Obj) : Blk (w.alloc o) g t cs := h.up ((Up.refl w).alloc o)
theorem Blk.new {w : World} {g : Nat} {t : TypeId} {cs cs' : Array Value} (hg : w.heap.size = g) (hc : cs = cs') : Blk (w.alloc (.cells cs t)) g t cs' := by
  subst hg hc
  exact heap_alloc_new w _
theorem Blk.grown {row : Option Nat} (h : Blk w g t cs) (hg : w.grownBy w' row) (hr : some g ≠ row) : Blk w' g t cs := (hg.block g h.lt hr).trans h
theorem Blk.below {B : Nat} (h : Blk w g t cs) (hb : Below B w w') (hg : g < B) : Blk w' g t cs := (hb.block g hg).trans h
theorem Blk.apart (h : Blk w g t cs) {a : Addr} (ha : g ≠ a.block) (v : Value) : Blk (w.setCell a v) g t cs := (Below.heap_setCell w a v g ha).trans h
theorem Blk.wrote (h : Blk w g t cs) (i : Nat) (v : Value) : Blk (w.setCell ⟨g, i, none⟩ v) g t (cs.setIfInBounds i v) := by
  have h1 : w.heap[g]? = some (.cells cs t (0, 0)) := h
  unfold Blk
  simp [World.setCell, Array.getElem?_modify, h1]
theorem Blk.row (h : Blk w g t cs) (cs' : Array Value) : Blk (w.setRow g cs') g t cs' := setRow_heap w g cs cs' t (0, 0) h
theorem Blk.rowApart (h : Blk w g t cs) {k : Nat} (hk : g ≠ k) (cs' : Array Value) : Blk (w.setRow k cs') g t cs := (setRow_other w k g cs' hk).trans h
theorem Up.setRow {w0 : World} (h : Up w0 w) (hg : w0.heap.size ≤ g) (cs' : Array Value) : Up w0 (w.setRow g cs') := below_setRow h hg cs'
end

/-- A row of numbers. -/
def arrK (k : IntKind) (f : Nat → Int) (n : Nat) : Array Value := (Array.range n).map fun j => .int k (f j)

section
variable {k : IntKind} {f g : Nat → Int} {n : Nat}
theorem arrK_size : (arrK k f n).size = n := by simp [arrK]
theorem arrK_get {j : Nat} (hj : j < n) : (arrK k f n)[j]? = some (.int k (f j)) := by simp [arrK, hj]
theorem arrK_one : (arrK k f n).all (·.oneCell') = true := by
  rw [Array.all_eq_true]
  intro i h
  simp [arrK, Value.oneCell']
theorem arrK_congr (h : ∀ j, j < n → f j = g j) : arrK k f n = arrK k g n := by
  apply Array.ext
  · simp [arrK]
  · intro i h1 h2
    simp [arrK] at h1 ⊢
    exact h i h1
theorem arrK_set {i : Nat} (x : Int) : (arrK k f n).setIfInBounds i (.int k x) = arrK k (fun j => if j = i then x else f j) n := by
  apply Array.ext_getElem?
  intro j
  rw [Array.getElem?_setIfInBounds, arrK_size]
  by_cases hj : j < n
  · rw [arrK_get hj, arrK_get hj]
    by_cases h : i = j
    · subst h
      simp [hj]
    · have h2 : ¬ j = i := fun e => h e.symm
      simp [h, h2]
  · have h1 : (arrK k f n)[j]? = none := by simp [arrK, hj]
    have h2 : (arrK k (fun j => if j = i then x else f j) n)[j]? = none := by simp [arrK, hj]
    rw [h1, h2]
    split
    · split
      · omega
      · rfl
    · rfl
end

/-- Filled as far as i. -/
def pfill (f : Nat → Int) (i : Nat) : Nat → Int := fun j => if j < i then f j else 0
theorem pfill_zero (k : IntKind) (f : Nat → Int) (n : Nat) : arrK k (fun _ => 0) n = arrK k (pfill f 0) n := arrK_congr fun j _ => by simp [pfill]
theorem pfill_all (k : IntKind) (f : Nat → Int) (n : Nat) : arrK k (pfill f n) n = arrK k f n := arrK_congr fun j hj => by simp [pfill, hj]
theorem pfill_put (k : IntKind) (f : Nat → Int) (i n : Nat) : (arrK k (pfill f i) n).setIfInBounds i (.int k (f i)) = arrK k (pfill f (i + 1)) n := by
  rw [arrK_set]
  refine arrK_congr fun t _ => ?_
  unfold pfill
  by_cases h : t = i
  · subst h
    simp
  · have e1 : (t < i + 1) ↔ (t < i) := by omega
    simp [h, e1]
theorem pfill_at {k : IntKind} {f : Nat → Int} {i n : Nat} (hi : i < n) : (arrK k (pfill f i) n)[i]? = some (.int k 0) := by
  rw [arrK_get hi, pfill, if_neg (by omega)]

/-- How long a slice is. -/
def lenOf : Value → Nat
  | .slice _ n _ => n
  | _ => 0

@[simp] theorem lenOf_slice (a : Option Addr) (n c : Nat) : lenOf (.slice a n c) = n := rfl
theorem Blk.own {w : World} {g base : Nat} {e : TypeId} {k : IntKind} {f : Nat → Int} {n : Nat} (h : Blk w g e (arrK k f n)) (hb : base ≤ g) (hn : n ≤ 9223372036854775807) : OwnS e k w base (.slice (some ⟨g, 0, none⟩) n n) ((List.range n).map f) := by
  refine ⟨by simp, .inr ⟨g, n, _, by simp, hb, h, by simp, by unfold maxLen; omega, by simp [arrK], ?_⟩⟩
  rw [List.take_of_length_le (by simp [arrK])]
  simp [arrK]

theorem own_empty {w : World} {g base : Nat} {e : TypeId} {k : IntKind} (h : Blk w g e #[]) (hb : base ≤ g) : OwnS e k w base (.slice (some ⟨g, 0, none⟩) 0 0) [] :=
  ⟨by simp, .inr ⟨g, 0, _, rfl, hb, h, Nat.le_refl _, Nat.zero_le _, rfl, rfl⟩⟩

/-- A block of numbers read as a slice. -/
theorem Blk.seq {w : World} {b : Nat} {t : TypeId} {k : IntKind} {f : Nat → Int} {m : Nat} (h : Blk w b t (arrK k f m)) (lo n c : Nat) (h1 : lo + n ≤ m) (hnc : n ≤ c) (h63 : c ≤ 9223372036854775807) :
    SeqAt k w (.slice (some ⟨b, lo, none⟩) n c) ((List.range n).map fun i => f (lo + i)) :=
  seq_block h _ lo n c (by simp) hnc h63 fun i hi => by
    rw [arrK_get (by omega)]
    simp [hi]
end Go.Sp
namespace Go.Proofs.YtdlcmpbpdbpanaaGreatDoor
open Go.RowKit Go.Sp
set_option maxHeartbeats 1000000
set_option maxRecDepth 20000

theorem rotl_2 (x : Int) (w : World) :
    Calls Tryz.prog 234 #[.int .u32 x, .int .i64 (-2)] w fun e w' => e = .returned (.int .u32 (rotr x 2)) ∧ w = w' := by
  have k1 : bits BinOp.and IntKind.u64 (IntKind.u64.wrap (-2)) 31 = 30 := by kernel_rfl
  go_enter Tryz.func234, Tryz.ntmps234
  go_wp2
  go_ret
  exact ⟨by rw [rotr, bits_or_comm]; rfl, rfl⟩

theorem right_2 (x : Int) (w : World) :
    Calls Tryz.prog 205 #[.int .u32 x, .int .i64 2] w fun e w' => e = .returned (.int .u32 (rotr x 2)) ∧ w = w' := by
  have hR := hid (rotl_2 x w)
  generalize rotr x 2 = y at *
  go_enter Tryz.func205, Tryz.ntmps205
  go_wp2_with fail
  refine hR.out.mono ?_
  rintro e w' ⟨rfl, rfl⟩
  go_wp2
  go_ret
  exact ⟨rfl, rfl⟩

theorem rright_2 (x : Int) (w : World) :
    Calls Tryz.prog 181 #[.int .u32 x, .int .i64 2] w fun e w' => e = .returned (.int .u32 (rotr x 2)) ∧ Up w w' := by
  go_enter Tryz.func181, Tryz.ntmps181
  go_wp2
  go_quiet (fail)
  go_wp2
  go_ret
  exact ⟨rfl, (Up.refl w).drewN _⟩

theorem rotl_6 (x : Int) (w : World) :
    Calls Tryz.prog 234 #[.int .u32 x, .int .i64 (-6)] w fun e w' => e = .returned (.int .u32 (rotr x 6)) ∧ w = w' := by
  have k1 : bits BinOp.and IntKind.u64 (IntKind.u64.wrap (-6)) 31 = 26 := by kernel_rfl
  go_enter Tryz.func234, Tryz.ntmps234
  go_wp2
  go_ret
  exact ⟨by rw [rotr, bits_or_comm]; rfl, rfl⟩

theorem right_6 (x : Int) (w : World) :
    Calls Tryz.prog 205 #[.int .u32 x, .int .i64 6] w fun e w' => e = .returned (.int .u32 (rotr x 6)) ∧ w = w' := by
  have hR := hid (rotl_6 x w)
  generalize rotr x 6 = y at *
  go_enter Tryz.func205, Tryz.ntmps205
  go_wp2_with fail
  refine hR.out.mono ?_
  rintro e w' ⟨rfl, rfl⟩
  go_wp2
  go_ret
  exact ⟨rfl, rfl⟩

theorem rright_6 (x : Int) (w : World) :
    Calls Tryz.prog 181 #[.int .u32 x, .int .i64 6] w fun e w' => e = .returned (.int .u32 (rotr x 6)) ∧ Up w w' := by
  go_enter Tryz.func181, Tryz.ntmps181
  go_wp2
  go_quiet (fail)
  go_wp2
  go_ret
  exact ⟨rfl, (Up.refl w).drewN _⟩

theorem rotl_7 (x : Int) (w : World) :
    Calls Tryz.prog 234 #[.int .u32 x, .int .i64 (-7)] w fun e w' => e = .returned (.int .u32 (rotr x 7)) ∧ w = w' := by
  have k1 : bits BinOp.and IntKind.u64 (IntKind.u64.wrap (-7)) 31 = 25 := by kernel_rfl
  go_enter Tryz.func234, Tryz.ntmps234
  go_wp2
  go_ret
  exact ⟨by rw [rotr, bits_or_comm]; rfl, rfl⟩

theorem right_7 (x : Int) (w : World) :
    Calls Tryz.prog 205 #[.int .u32 x, .int .i64 7] w fun e w' => e = .returned (.int .u32 (rotr x 7)) ∧ w = w' := by
  have hR := hid (rotl_7 x w)
  generalize rotr x 7 = y at *
  go_enter Tryz.func205, Tryz.ntmps205
  go_wp2_with fail
  refine hR.out.mono ?_
  rintro e w' ⟨rfl, rfl⟩
  go_wp2
  go_ret
  exact ⟨rfl, rfl⟩

theorem rright_7 (x : Int) (w : World) :
    Calls Tryz.prog 181 #[.int .u32 x, .int .i64 7] w fun e w' => e = .returned (.int .u32 (rotr x 7)) ∧ Up w w' := by
  go_enter Tryz.func181, Tryz.ntmps181
  go_wp2
  go_quiet (fail)
  go_wp2
  go_ret
  exact ⟨rfl, (Up.refl w).drewN _⟩

theorem rotl_11 (x : Int) (w : World) :
    Calls Tryz.prog 234 #[.int .u32 x, .int .i64 (-11)] w fun e w' => e = .returned (.int .u32 (rotr x 11)) ∧ w = w' := by
  have k1 : bits BinOp.and IntKind.u64 (IntKind.u64.wrap (-11)) 31 = 21 := by kernel_rfl
  go_enter Tryz.func234, Tryz.ntmps234
  go_wp2
  go_ret
  exact ⟨by rw [rotr, bits_or_comm]; rfl, rfl⟩

theorem right_11 (x : Int) (w : World) :
    Calls Tryz.prog 205 #[.int .u32 x, .int .i64 11] w fun e w' => e = .returned (.int .u32 (rotr x 11)) ∧ w = w' := by
  have hR := hid (rotl_11 x w)
  generalize rotr x 11 = y at *
  go_enter Tryz.func205, Tryz.ntmps205
  go_wp2_with fail
  refine hR.out.mono ?_
  rintro e w' ⟨rfl, rfl⟩
  go_wp2
  go_ret
  exact ⟨rfl, rfl⟩

theorem rright_11 (x : Int) (w : World) :
    Calls Tryz.prog 181 #[.int .u32 x, .int .i64 11] w fun e w' => e = .returned (.int .u32 (rotr x 11)) ∧ Up w w' := by
  go_enter Tryz.func181, Tryz.ntmps181
  go_wp2
  go_quiet (fail)
  go_wp2
  go_ret
  exact ⟨rfl, (Up.refl w).drewN _⟩

theorem rotl_13 (x : Int) (w : World) :
    Calls Tryz.prog 234 #[.int .u32 x, .int .i64 (-13)] w fun e w' => e = .returned (.int .u32 (rotr x 13)) ∧ w = w' := by
  have k1 : bits BinOp.and IntKind.u64 (IntKind.u64.wrap (-13)) 31 = 19 := by kernel_rfl
  go_enter Tryz.func234, Tryz.ntmps234
  go_wp2
  go_ret
  exact ⟨by rw [rotr, bits_or_comm]; rfl, rfl⟩

theorem right_13 (x : Int) (w : World) :
    Calls Tryz.prog 205 #[.int .u32 x, .int .i64 13] w fun e w' => e = .returned (.int .u32 (rotr x 13)) ∧ w = w' := by
  have hR := hid (rotl_13 x w)
  generalize rotr x 13 = y at *
  go_enter Tryz.func205, Tryz.ntmps205
  go_wp2_with fail
  refine hR.out.mono ?_
  rintro e w' ⟨rfl, rfl⟩
  go_wp2
  go_ret
  exact ⟨rfl, rfl⟩

theorem rright_13 (x : Int) (w : World) :
    Calls Tryz.prog 181 #[.int .u32 x, .int .i64 13] w fun e w' => e = .returned (.int .u32 (rotr x 13)) ∧ Up w w' := by
  go_enter Tryz.func181, Tryz.ntmps181
  go_wp2
  go_quiet (fail)
  go_wp2
  go_ret
  exact ⟨rfl, (Up.refl w).drewN _⟩

theorem rotl_17 (x : Int) (w : World) :
    Calls Tryz.prog 234 #[.int .u32 x, .int .i64 (-17)] w fun e w' => e = .returned (.int .u32 (rotr x 17)) ∧ w = w' := by
  have k1 : bits BinOp.and IntKind.u64 (IntKind.u64.wrap (-17)) 31 = 15 := by kernel_rfl
  go_enter Tryz.func234, Tryz.ntmps234
  go_wp2
  go_ret
  exact ⟨by rw [rotr, bits_or_comm]; rfl, rfl⟩

theorem right_17 (x : Int) (w : World) :
    Calls Tryz.prog 205 #[.int .u32 x, .int .i64 17] w fun e w' => e = .returned (.int .u32 (rotr x 17)) ∧ w = w' := by
  have hR := hid (rotl_17 x w)
  generalize rotr x 17 = y at *
  go_enter Tryz.func205, Tryz.ntmps205
  go_wp2_with fail
  refine hR.out.mono ?_
  rintro e w' ⟨rfl, rfl⟩
  go_wp2
  go_ret
  exact ⟨rfl, rfl⟩

theorem rright_17 (x : Int) (w : World) :
    Calls Tryz.prog 181 #[.int .u32 x, .int .i64 17] w fun e w' => e = .returned (.int .u32 (rotr x 17)) ∧ Up w w' := by
  go_enter Tryz.func181, Tryz.ntmps181
  go_wp2
  go_quiet (fail)
  go_wp2
  go_ret
  exact ⟨rfl, (Up.refl w).drewN _⟩

theorem rotl_18 (x : Int) (w : World) :
    Calls Tryz.prog 234 #[.int .u32 x, .int .i64 (-18)] w fun e w' => e = .returned (.int .u32 (rotr x 18)) ∧ w = w' := by
  have k1 : bits BinOp.and IntKind.u64 (IntKind.u64.wrap (-18)) 31 = 14 := by kernel_rfl
  go_enter Tryz.func234, Tryz.ntmps234
  go_wp2
  go_ret
  exact ⟨by rw [rotr, bits_or_comm]; rfl, rfl⟩

theorem right_18 (x : Int) (w : World) :
    Calls Tryz.prog 205 #[.int .u32 x, .int .i64 18] w fun e w' => e = .returned (.int .u32 (rotr x 18)) ∧ w = w' := by
  have hR := hid (rotl_18 x w)
  generalize rotr x 18 = y at *
  go_enter Tryz.func205, Tryz.ntmps205
  go_wp2_with fail
  refine hR.out.mono ?_
  rintro e w' ⟨rfl, rfl⟩
  go_wp2
  go_ret
  exact ⟨rfl, rfl⟩

theorem rright_18 (x : Int) (w : World) :
    Calls Tryz.prog 181 #[.int .u32 x, .int .i64 18] w fun e w' => e = .returned (.int .u32 (rotr x 18)) ∧ Up w w' := by
  go_enter Tryz.func181, Tryz.ntmps181
  go_wp2
  go_quiet (fail)
  go_wp2
  go_ret
  exact ⟨rfl, (Up.refl w).drewN _⟩

theorem rotl_19 (x : Int) (w : World) :
    Calls Tryz.prog 234 #[.int .u32 x, .int .i64 (-19)] w fun e w' => e = .returned (.int .u32 (rotr x 19)) ∧ w = w' := by
  have k1 : bits BinOp.and IntKind.u64 (IntKind.u64.wrap (-19)) 31 = 13 := by kernel_rfl
  go_enter Tryz.func234, Tryz.ntmps234
  go_wp2
  go_ret
  exact ⟨by rw [rotr, bits_or_comm]; rfl, rfl⟩

theorem right_19 (x : Int) (w : World) :
    Calls Tryz.prog 205 #[.int .u32 x, .int .i64 19] w fun e w' => e = .returned (.int .u32 (rotr x 19)) ∧ w = w' := by
  have hR := hid (rotl_19 x w)
  generalize rotr x 19 = y at *
  go_enter Tryz.func205, Tryz.ntmps205
  go_wp2_with fail
  refine hR.out.mono ?_
  rintro e w' ⟨rfl, rfl⟩
  go_wp2
  go_ret
  exact ⟨rfl, rfl⟩

theorem rright_19 (x : Int) (w : World) :
    Calls Tryz.prog 181 #[.int .u32 x, .int .i64 19] w fun e w' => e = .returned (.int .u32 (rotr x 19)) ∧ Up w w' := by
  go_enter Tryz.func181, Tryz.ntmps181
  go_wp2
  go_quiet (fail)
  go_wp2
  go_ret
  exact ⟨rfl, (Up.refl w).drewN _⟩

theorem rotl_22 (x : Int) (w : World) :
    Calls Tryz.prog 234 #[.int .u32 x, .int .i64 (-22)] w fun e w' => e = .returned (.int .u32 (rotr x 22)) ∧ w = w' := by
  have k1 : bits BinOp.and IntKind.u64 (IntKind.u64.wrap (-22)) 31 = 10 := by kernel_rfl
  go_enter Tryz.func234, Tryz.ntmps234
  go_wp2
  go_ret
  exact ⟨by rw [rotr, bits_or_comm]; rfl, rfl⟩

theorem right_22 (x : Int) (w : World) :
    Calls Tryz.prog 205 #[.int .u32 x, .int .i64 22] w fun e w' => e = .returned (.int .u32 (rotr x 22)) ∧ w = w' := by
  have hR := hid (rotl_22 x w)
  generalize rotr x 22 = y at *
  go_enter Tryz.func205, Tryz.ntmps205
  go_wp2_with fail
  refine hR.out.mono ?_
  rintro e w' ⟨rfl, rfl⟩
  go_wp2
  go_ret
  exact ⟨rfl, rfl⟩

theorem rright_22 (x : Int) (w : World) :
    Calls Tryz.prog 181 #[.int .u32 x, .int .i64 22] w fun e w' => e = .returned (.int .u32 (rotr x 22)) ∧ Up w w' := by
  go_enter Tryz.func181, Tryz.ntmps181
  go_wp2
  go_quiet (fail)
  go_wp2
  go_ret
  exact ⟨rfl, (Up.refl w).drewN _⟩

theorem rotl_25 (x : Int) (w : World) :
    Calls Tryz.prog 234 #[.int .u32 x, .int .i64 (-25)] w fun e w' => e = .returned (.int .u32 (rotr x 25)) ∧ w = w' := by
  have k1 : bits BinOp.and IntKind.u64 (IntKind.u64.wrap (-25)) 31 = 7 := by kernel_rfl
  go_enter Tryz.func234, Tryz.ntmps234
  go_wp2
  go_ret
  exact ⟨by rw [rotr, bits_or_comm]; rfl, rfl⟩

theorem right_25 (x : Int) (w : World) :
    Calls Tryz.prog 205 #[.int .u32 x, .int .i64 25] w fun e w' => e = .returned (.int .u32 (rotr x 25)) ∧ w = w' := by
  have hR := hid (rotl_25 x w)
  generalize rotr x 25 = y at *
  go_enter Tryz.func205, Tryz.ntmps205
  go_wp2_with fail
  refine hR.out.mono ?_
  rintro e w' ⟨rfl, rfl⟩
  go_wp2
  go_ret
  exact ⟨rfl, rfl⟩

theorem rright_25 (x : Int) (w : World) :
    Calls Tryz.prog 181 #[.int .u32 x, .int .i64 25] w fun e w' => e = .returned (.int .u32 (rotr x 25)) ∧ Up w w' := by
  go_enter Tryz.func181, Tryz.ntmps181
  go_wp2
  go_quiet (fail)
  go_wp2
  go_ret
  exact ⟨rfl, (Up.refl w).drewN _⟩
end Go.Proofs.YtdlcmpbpdbpanaaGreatDoor
