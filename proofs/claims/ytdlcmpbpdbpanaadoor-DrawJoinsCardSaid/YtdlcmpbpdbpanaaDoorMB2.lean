/- Blocks that are known whole; rows of numbers. Over any program. A region that draws its order, whose operations only read, and whose callees leave all that was there as it was: one walk, in the order of the text. Package digest and its reference: a rotation; the words of a block. Package digest: the words of a block. -/
import Derived.Test.YtdlcmpbpdbpanaaDoorMB1
import Derived.Laws.Tables
import Derived.Laws.Rows
import Derived.BigQuiet
import Derived.Deep.QuietTactic
import Derived.BigRegion
import Derived.Deep.WholeRow
namespace Go.Sp
open Go.RowKit

/-- A block that is known whole. -/
def Blk (w : World) (g : Nat) (t : TypeId) (cs : Array Value) : Prop := w.heap[g]? = some (.cells cs t (0, 0))

section
variable {w w' : World} {g : Nat} {t : TypeId} {cs : Array Value}
theorem Blk.lt (h : Blk w g t cs) : g < w.heap.size := (Array.getElem?_eq_some_iff.1 h).1
theorem Blk.read (h : Blk w g t cs) (i : Nat) : w.cell? ⟨g, i, none⟩ = cs[i]? := by
  have h1 : w.heap[g]? = some (.cells cs t (0, 0)) := h
  simp [World.cell?, h1]
theorem Blk.val (h : Blk w g t cs) {i : Nat} {v : Value} (hv : cs[i]? = some v) : w.cell? ⟨g, i, none⟩ = some v := by rw [h.read i]; exact hv
theorem Blk.thawed (h : Blk w g t cs) (i : Nat) : w.frozen? ⟨g, i, none⟩ = false := by
  have h1 : w.heap[g]? = some (.cells cs t (0, 0)) := h
  simp [World.frozen?, h1]
theorem Blk.up (h : Blk w g t cs) (hU : Up w w') : Blk w' g t cs := (hU.block h.lt).trans h
theorem Blk.alloc (h : Blk w g t cs) (o : Obj) : Blk (w.alloc o) g t cs := h.up ((Up.refl w).alloc o)
theorem Blk.new {w : World} {g : Nat} {t : TypeId} {cs cs' : Array Value} (hg : w.heap.size = g) (hc : cs = cs') : Blk (w.alloc (.cells cs t)) g t cs' := by
  subst hg hc
  exact heap_alloc_new w _
theorem Blk.grown {row : Option Nat} (h : Blk w g t cs) (hg : w.grownBy w' row) (hr : some g ≠ row) : Blk w' g t cs := (hg.block g h.lt hr).trans h
theorem Blk.below {B : Nat} (h : Blk w g t cs) (hb : Below B w w') (hg : g < B) : Blk w' g t cs := (hb.block g hg).trans h
theorem Blk.apart (h : Blk w g t cs) {a : Addr} (ha : g ≠ a.block) (v : Value) : Blk (w.setCell a v) g t cs := (Below.heap_setCell w a v g ha).trans h
theorem Blk.wrote (h : Blk w g t cs) (i : Nat) (v : Value) : Blk (w.setCell ⟨g, i, none⟩ v) g t (cs.setIfInBounds i v) := by
  have h1 : w.heap[g]? = some (.cells cs t (0, 0)) := h
  unfold Blk
  simp [World.setCell, Array.getElem?_modify, h1]
theorem Blk.row (h : Blk w g t cs) (cs' : Array Value) : Blk (w.setRow g cs') g t cs' := setRow_heap w g cs cs' t (0, 0) h
theorem Blk.rowApart (h : Blk w g t cs) {k : Nat} (hk : g ≠ k) (cs' : Array Value) : Blk (w.setRow k cs') g t cs := (setRow_other w k g cs' hk).trans h
theorem Up.setRow {w0 : World} (h : Up w0 w) (hg : w0.heap.size ≤ g) (cs' : Array Value) : Up w0 (w.setRow g cs') := below_setRow h hg cs'
end

/-- A row of numbers. -/
def arrK (k : IntKind) (f : Nat → Int) (n : Nat) : Array Value := (Array.range n).map fun j => .int k (f j)

section
variable {k : IntKind} {f g : Nat → Int} {n : Nat}
theorem arrK_size : (arrK k f n).size = n := by simp [arrK]
theorem arrK_get {j : Nat} (hj : j < n) : (arrK k f n)[j]? = some (.int k (f j)) := by simp [arrK, hj]
theorem arrK_one : (arrK k f n).all (·.oneCell') = true := by
  rw [Array.all_eq_true]
  intro i h
  simp [arrK, Value.oneCell']
theorem arrK_congr (h : ∀ j, j < n → f j = g j) : arrK k f n = arrK k g n := by
  apply Array.ext
  · simp [arrK]
  · intro i h1 h2
    simp [arrK] at h1 ⊢
    exact h i h1
theorem arrK_set {i : Nat} (x : Int) : (arrK k f n).setIfInBounds i (.int k x) = arrK k (fun j => if j = i then x else f j) n := by
  apply Array.ext_getElem?
  intro j
  rw [Array.getElem?_setIfInBounds, arrK_size]
  by_cases hj : j < n
  · rw [arrK_get hj, arrK_get hj]
    by_cases h : i = j
    · subst h
      simp [hj]
    · have h2 : ¬ j = i := fun e => h e.symm
      simp [h, h2]
  · have h1 : (arrK k f n)[j]? = none := by simp [arrK, hj]
    have h2 : (arrK k (fun j => if j = i then x else f j) n)[j]? = none := by simp [arrK, hj]
    rw [h1, h2]
    split
    · split
      · omega
      · rfl
    · rfl
end

/-- Filled as far as i. -/
def pfill (f : Nat → Int) (i : Nat) : Nat → Int := fun j => if j < i then f j else 0
theorem pfill_zero (k : IntKind) (f : Nat → Int) (n : Nat) : arrK k (fun _ => 0) n = arrK k (pfill f 0) n := arrK_congr fun j _ => by simp [pfill]
theorem pfill_all (k : IntKind) (f : Nat → Int) (n : Nat) : arrK k (pfill f n) n = arrK k f n := arrK_congr fun j hj => by simp [pfill, hj]
theorem pfill_put (k : IntKind) (f : Nat → Int) (i n : Nat) : (arrK k (pfill f i) n).setIfInBounds i (.int k (f i)) = arrK k (pfill f (i + 1)) n := by
  rw [arrK_set]
  refine arrK_congr fun t _ => ?_
  unfold pfill
  by_cases h : t = i
  · subst h
    simp
  · have e1 : (t < i + 1) ↔ (t < i) := by omega
    simp [h, e1]
theorem pfill_at {k : IntKind} {f : Nat → Int} {i n : Nat} (hi : i < n) : (arrK k (pfill f i) n)[i]? = some (.int k 0) := by
  rw [arrK_get hi, pfill, if_neg (by omega)]

/-- How long a slice is. -/
def lenOf : Value → Nat
  | .slice _ n _ => n
  | _ => 0

@[simp] theorem lenOf_slice (a : Option Addr) (n c : Nat) : lenOf (.slice a n c) = n := rfl
theorem Blk.own {w : World} {g base : Nat} {e : TypeId} {k : IntKind} {f : Nat → Int} {n : Nat} (h : Blk w g e (arrK k f n)) (hb : base ≤ g) (hn : n ≤ 9223372036854775807) : OwnS e k w base (.slice (some ⟨g, 0, none⟩) n n) ((List.range n).map f) := by
  refine ⟨by simp, .inr ⟨g, n, _, by simp, hb, h, by simp, by unfold maxLen; omega, by simp [arrK], ?_⟩⟩
  rw [List.take_of_length_le (by simp [arrK])]
  simp [arrK]

theorem own_empty {w : World} {g base : Nat} {e : TypeId} {k : IntKind} (h : Blk w g e #[]) (hb : base ≤ g) : OwnS e k w base (.slice (some ⟨g, 0, none⟩) 0 0) [] :=
  ⟨by simp, .inr ⟨g, 0, _, rfl, hb, h, Nat.le_refl _, Nat.zero_le _, rfl, rfl⟩⟩

/-- A block of numbers read as a slice. -/
theorem Blk.seq {w : World} {b : Nat} {t : TypeId} {k : IntKind} {f : Nat → Int} {m : Nat} (h : Blk w b t (arrK k f m)) (lo n c : Nat) (h1 : lo + n ≤ m) (hnc : n ≤ c) (h63 : c ≤ 9223372036854775807) :
    SeqAt k w (.slice (some ⟨b, lo, none⟩) n c) ((List.range n).map fun i => f (lo + i)) :=
  seq_block h _ lo n c (by simp) hnc h63 fun i hi => by
    rw [arrK_get (by omega)]
    simp [hi]
end Go.Sp
namespace Go.Sp
open Go.RowKit

/-- A world in which nothing of w has turned. -/
structure UpFrom (w : World) where
  w' : World
  up : Up w w'

instance (w : World) : Nonempty (UpFrom w) := ⟨⟨w, Up.refl w⟩⟩

theorem UpFrom.frozen {w : World} {a : Addr} {x : Bool} (h : w.frozen? a = x) (ha : a.block < w.heap.size) (p : UpFrom w) : p.w'.frozen? a = x := by rw [p.up.frozen ha]; exact h

theorem wp_region_up {P : Program} {id : Nat} {Q : Exit → Act → World → Prop} {a : Act} {w : World} {l : List Oper} (hm : P.follows .mixedOrders = true) (hB : Region.lexB .any l.toArray = true)
    (h : wpQuiet P l.toArray (fun w' => ∃ p : UpFrom w, w' = p.w') (fun a' => ∀ w', (∃ p : UpFrom w, w' = p.w') → Q .normal a' w') l a) : (Code.region id l.toArray true).wp P Q a w :=
  wp_region_quiet (C := fun w' => ∃ p : UpFrom w, w' = p.w') hm hB ⟨⟨_, (Up.refl w).drew⟩, rfl⟩ (by simpa using h)

/-- A callee's contract, met in a world of the class. -/
theorem Calls.up_of {P : Program} {f : FuncId} {args : Array Value} {w : World} {p : UpFrom w} {v : Value}
    (h : Calls P f args p.w' fun e w' => e = .returned v ∧ Up p.w' w') : Calls P f args p.w' fun e w'' => e = .returned v ∧ ∃ q : UpFrom w, w'' = q.w' :=
  h.mono fun _ _ ⟨he, hu⟩ => ⟨he, ⟨_, p.up.trans hu⟩, rfl⟩

theorem Calls.up_same {P : Program} {f : FuncId} {args : Array Value} {w : World} {p : UpFrom w} {v : Value}
    (h : Calls P f args p.w' fun e w' => e = .returned v ∧ p.w' = w') : Calls P f args p.w' fun e w'' => e = .returned v ∧ ∃ q : UpFrom w, w'' = q.w' :=
  h.mono fun _ _ ⟨he, hu⟩ => ⟨he, p, hu.symm⟩
end Go.Sp
namespace Go.Proofs.YtdlcmpbpdbpanaaDoor
open Go.RowKit Go.Sp
set_option maxHeartbeats 1000000
set_option maxRecDepth 20000

theorem rotl_2 (x : Int) (w : World) :
    Calls Tryd.prog 159 #[.int .u32 x, .int .i64 (-2)] w fun e w' => e = .returned (.int .u32 (rotr x 2)) ∧ w = w' := by
  have k1 : bits BinOp.and IntKind.u64 (IntKind.u64.wrap (-2)) 31 = 30 := by kernel_rfl
  go_enter Tryd.func159, Tryd.ntmps159
  go_wp2
  go_ret
  exact ⟨by rw [rotr, bits_or_comm]; rfl, rfl⟩

theorem right_2 (x : Int) (w : World) :
    Calls Tryd.prog 126 #[.int .u32 x, .int .i64 2] w fun e w' => e = .returned (.int .u32 (rotr x 2)) ∧ w = w' := by
  have hR := hid (rotl_2 x w)
  generalize rotr x 2 = y at *
  go_enter Tryd.func126, Tryd.ntmps126
  go_wp2_with fail
  refine hR.out.mono ?_
  rintro e w' ⟨rfl, rfl⟩
  go_wp2
  go_ret
  exact ⟨rfl, rfl⟩

theorem rright_2 (x : Int) (w : World) :
    Calls Tryd.prog 158 #[.int .u32 x, .int .i64 2] w fun e w' => e = .returned (.int .u32 (rotr x 2)) ∧ Up w w' := by
  go_enter Tryd.func158, Tryd.ntmps158
  go_wp2
  go_quiet (fail)
  go_wp2
  go_ret
  exact ⟨rfl, (Up.refl w).drewN _⟩

theorem rotl_6 (x : Int) (w : World) :
    Calls Tryd.prog 159 #[.int .u32 x, .int .i64 (-6)] w fun e w' => e = .returned (.int .u32 (rotr x 6)) ∧ w = w' := by
  have k1 : bits BinOp.and IntKind.u64 (IntKind.u64.wrap (-6)) 31 = 26 := by kernel_rfl
  go_enter Tryd.func159, Tryd.ntmps159
  go_wp2
  go_ret
  exact ⟨by rw [rotr, bits_or_comm]; rfl, rfl⟩

theorem right_6 (x : Int) (w : World) :
    Calls Tryd.prog 126 #[.int .u32 x, .int .i64 6] w fun e w' => e = .returned (.int .u32 (rotr x 6)) ∧ w = w' := by
  have hR := hid (rotl_6 x w)
  generalize rotr x 6 = y at *
  go_enter Tryd.func126, Tryd.ntmps126
  go_wp2_with fail
  refine hR.out.mono ?_
  rintro e w' ⟨rfl, rfl⟩
  go_wp2
  go_ret
  exact ⟨rfl, rfl⟩

theorem rright_6 (x : Int) (w : World) :
    Calls Tryd.prog 158 #[.int .u32 x, .int .i64 6] w fun e w' => e = .returned (.int .u32 (rotr x 6)) ∧ Up w w' := by
  go_enter Tryd.func158, Tryd.ntmps158
  go_wp2
  go_quiet (fail)
  go_wp2
  go_ret
  exact ⟨rfl, (Up.refl w).drewN _⟩

theorem rotl_7 (x : Int) (w : World) :
    Calls Tryd.prog 159 #[.int .u32 x, .int .i64 (-7)] w fun e w' => e = .returned (.int .u32 (rotr x 7)) ∧ w = w' := by
  have k1 : bits BinOp.and IntKind.u64 (IntKind.u64.wrap (-7)) 31 = 25 := by kernel_rfl
  go_enter Tryd.func159, Tryd.ntmps159
  go_wp2
  go_ret
  exact ⟨by rw [rotr, bits_or_comm]; rfl, rfl⟩

theorem right_7 (x : Int) (w : World) :
    Calls Tryd.prog 126 #[.int .u32 x, .int .i64 7] w fun e w' => e = .returned (.int .u32 (rotr x 7)) ∧ w = w' := by
  have hR := hid (rotl_7 x w)
  generalize rotr x 7 = y at *
  go_enter Tryd.func126, Tryd.ntmps126
  go_wp2_with fail
  refine hR.out.mono ?_
  rintro e w' ⟨rfl, rfl⟩
  go_wp2
  go_ret
  exact ⟨rfl, rfl⟩

theorem rright_7 (x : Int) (w : World) :
    Calls Tryd.prog 158 #[.int .u32 x, .int .i64 7] w fun e w' => e = .returned (.int .u32 (rotr x 7)) ∧ Up w w' := by
  go_enter Tryd.func158, Tryd.ntmps158
  go_wp2
  go_quiet (fail)
  go_wp2
  go_ret
  exact ⟨rfl, (Up.refl w).drewN _⟩

theorem rotl_11 (x : Int) (w : World) :
    Calls Tryd.prog 159 #[.int .u32 x, .int .i64 (-11)] w fun e w' => e = .returned (.int .u32 (rotr x 11)) ∧ w = w' := by
  have k1 : bits BinOp.and IntKind.u64 (IntKind.u64.wrap (-11)) 31 = 21 := by kernel_rfl
  go_enter Tryd.func159, Tryd.ntmps159
  go_wp2
  go_ret
  exact ⟨by rw [rotr, bits_or_comm]; rfl, rfl⟩

theorem right_11 (x : Int) (w : World) :
    Calls Tryd.prog 126 #[.int .u32 x, .int .i64 11] w fun e w' => e = .returned (.int .u32 (rotr x 11)) ∧ w = w' := by
  have hR := hid (rotl_11 x w)
  generalize rotr x 11 = y at *
  go_enter Tryd.func126, Tryd.ntmps126
  go_wp2_with fail
  refine hR.out.mono ?_
  rintro e w' ⟨rfl, rfl⟩
  go_wp2
  go_ret
  exact ⟨rfl, rfl⟩

theorem rright_11 (x : Int) (w : World) :
    Calls Tryd.prog 158 #[.int .u32 x, .int .i64 11] w fun e w' => e = .returned (.int .u32 (rotr x 11)) ∧ Up w w' := by
  go_enter Tryd.func158, Tryd.ntmps158
  go_wp2
  go_quiet (fail)
  go_wp2
  go_ret
  exact ⟨rfl, (Up.refl w).drewN _⟩

theorem rotl_13 (x : Int) (w : World) :
    Calls Tryd.prog 159 #[.int .u32 x, .int .i64 (-13)] w fun e w' => e = .returned (.int .u32 (rotr x 13)) ∧ w = w' := by
  have k1 : bits BinOp.and IntKind.u64 (IntKind.u64.wrap (-13)) 31 = 19 := by kernel_rfl
  go_enter Tryd.func159, Tryd.ntmps159
  go_wp2
  go_ret
  exact ⟨by rw [rotr, bits_or_comm]; rfl, rfl⟩

theorem right_13 (x : Int) (w : World) :
    Calls Tryd.prog 126 #[.int .u32 x, .int .i64 13] w fun e w' => e = .returned (.int .u32 (rotr x 13)) ∧ w = w' := by
  have hR := hid (rotl_13 x w)
  generalize rotr x 13 = y at *
  go_enter Tryd.func126, Tryd.ntmps126
  go_wp2_with fail
  refine hR.out.mono ?_
  rintro e w' ⟨rfl, rfl⟩
  go_wp2
  go_ret
  exact ⟨rfl, rfl⟩

theorem rright_13 (x : Int) (w : World) :
    Calls Tryd.prog 158 #[.int .u32 x, .int .i64 13] w fun e w' => e = .returned (.int .u32 (rotr x 13)) ∧ Up w w' := by
  go_enter Tryd.func158, Tryd.ntmps158
  go_wp2
  go_quiet (fail)
  go_wp2
  go_ret
  exact ⟨rfl, (Up.refl w).drewN _⟩

theorem rotl_17 (x : Int) (w : World) :
    Calls Tryd.prog 159 #[.int .u32 x, .int .i64 (-17)] w fun e w' => e = .returned (.int .u32 (rotr x 17)) ∧ w = w' := by
  have k1 : bits BinOp.and IntKind.u64 (IntKind.u64.wrap (-17)) 31 = 15 := by kernel_rfl
  go_enter Tryd.func159, Tryd.ntmps159
  go_wp2
  go_ret
  exact ⟨by rw [rotr, bits_or_comm]; rfl, rfl⟩

theorem right_17 (x : Int) (w : World) :
    Calls Tryd.prog 126 #[.int .u32 x, .int .i64 17] w fun e w' => e = .returned (.int .u32 (rotr x 17)) ∧ w = w' := by
  have hR := hid (rotl_17 x w)
  generalize rotr x 17 = y at *
  go_enter Tryd.func126, Tryd.ntmps126
  go_wp2_with fail
  refine hR.out.mono ?_
  rintro e w' ⟨rfl, rfl⟩
  go_wp2
  go_ret
  exact ⟨rfl, rfl⟩

theorem rright_17 (x : Int) (w : World) :
    Calls Tryd.prog 158 #[.int .u32 x, .int .i64 17] w fun e w' => e = .returned (.int .u32 (rotr x 17)) ∧ Up w w' := by
  go_enter Tryd.func158, Tryd.ntmps158
  go_wp2
  go_quiet (fail)
  go_wp2
  go_ret
  exact ⟨rfl, (Up.refl w).drewN _⟩

theorem rotl_18 (x : Int) (w : World) :
    Calls Tryd.prog 159 #[.int .u32 x, .int .i64 (-18)] w fun e w' => e = .returned (.int .u32 (rotr x 18)) ∧ w = w' := by
  have k1 : bits BinOp.and IntKind.u64 (IntKind.u64.wrap (-18)) 31 = 14 := by kernel_rfl
  go_enter Tryd.func159, Tryd.ntmps159
  go_wp2
  go_ret
  exact ⟨by rw [rotr, bits_or_comm]; rfl, rfl⟩

theorem right_18 (x : Int) (w : World) :
    Calls Tryd.prog 126 #[.int .u32 x, .int .i64 18] w fun e w' => e = .returned (.int .u32 (rotr x 18)) ∧ w = w' := by
  have hR := hid (rotl_18 x w)
  generalize rotr x 18 = y at *
  go_enter Tryd.func126, Tryd.ntmps126
  go_wp2_with fail
  refine hR.out.mono ?_
  rintro e w' ⟨rfl, rfl⟩
  go_wp2
  go_ret
  exact ⟨rfl, rfl⟩

theorem rright_18 (x : Int) (w : World) :
    Calls Tryd.prog 158 #[.int .u32 x, .int .i64 18] w fun e w' => e = .returned (.int .u32 (rotr x 18)) ∧ Up w w' := by
  go_enter Tryd.func158, Tryd.ntmps158
  go_wp2
  go_quiet (fail)
  go_wp2
  go_ret
  exact ⟨rfl, (Up.refl w).drewN _⟩

theorem rotl_19 (x : Int) (w : World) :
    Calls Tryd.prog 159 #[.int .u32 x, .int .i64 (-19)] w fun e w' => e = .returned (.int .u32 (rotr x 19)) ∧ w = w' := by
  have k1 : bits BinOp.and IntKind.u64 (IntKind.u64.wrap (-19)) 31 = 13 := by kernel_rfl
  go_enter Tryd.func159, Tryd.ntmps159
  go_wp2
  go_ret
  exact ⟨by rw [rotr, bits_or_comm]; rfl, rfl⟩

theorem right_19 (x : Int) (w : World) :
    Calls Tryd.prog 126 #[.int .u32 x, .int .i64 19] w fun e w' => e = .returned (.int .u32 (rotr x 19)) ∧ w = w' := by
  have hR := hid (rotl_19 x w)
  generalize rotr x 19 = y at *
  go_enter Tryd.func126, Tryd.ntmps126
  go_wp2_with fail
  refine hR.out.mono ?_
  rintro e w' ⟨rfl, rfl⟩
  go_wp2
  go_ret
  exact ⟨rfl, rfl⟩

theorem rright_19 (x : Int) (w : World) :
    Calls Tryd.prog 158 #[.int .u32 x, .int .i64 19] w fun e w' => e = .returned (.int .u32 (rotr x 19)) ∧ Up w w' := by
  go_enter Tryd.func158, Tryd.ntmps158
  go_wp2
  go_quiet (fail)
  go_wp2
  go_ret
  exact ⟨rfl, (Up.refl w).drewN _⟩

theorem rotl_22 (x : Int) (w : World) :
    Calls Tryd.prog 159 #[.int .u32 x, .int .i64 (-22)] w fun e w' => e = .returned (.int .u32 (rotr x 22)) ∧ w = w' := by
  have k1 : bits BinOp.and IntKind.u64 (IntKind.u64.wrap (-22)) 31 = 10 := by kernel_rfl
  go_enter Tryd.func159, Tryd.ntmps159
  go_wp2
  go_ret
  exact ⟨by rw [rotr, bits_or_comm]; rfl, rfl⟩

theorem right_22 (x : Int) (w : World) :
    Calls Tryd.prog 126 #[.int .u32 x, .int .i64 22] w fun e w' => e = .returned (.int .u32 (rotr x 22)) ∧ w = w' := by
  have hR := hid (rotl_22 x w)
  generalize rotr x 22 = y at *
  go_enter Tryd.func126, Tryd.ntmps126
  go_wp2_with fail
  refine hR.out.mono ?_
  rintro e w' ⟨rfl, rfl⟩
  go_wp2
  go_ret
  exact ⟨rfl, rfl⟩

theorem rright_22 (x : Int) (w : World) :
    Calls Tryd.prog 158 #[.int .u32 x, .int .i64 22] w fun e w' => e = .returned (.int .u32 (rotr x 22)) ∧ Up w w' := by
  go_enter Tryd.func158, Tryd.ntmps158
  go_wp2
  go_quiet (fail)
  go_wp2
  go_ret
  exact ⟨rfl, (Up.refl w).drewN _⟩

theorem rotl_25 (x : Int) (w : World) :
    Calls Tryd.prog 159 #[.int .u32 x, .int .i64 (-25)] w fun e w' => e = .returned (.int .u32 (rotr x 25)) ∧ w = w' := by
  have k1 : bits BinOp.and IntKind.u64 (IntKind.u64.wrap (-25)) 31 = 7 := by kernel_rfl
  go_enter Tryd.func159, Tryd.ntmps159
  go_wp2
  go_ret
  exact ⟨by rw [rotr, bits_or_comm]; rfl, rfl⟩

theorem right_25 (x : Int) (w : World) :
    Calls Tryd.prog 126 #[.int .u32 x, .int .i64 25] w fun e w' => e = .returned (.int .u32 (rotr x 25)) ∧ w = w' := by
  have hR := hid (rotl_25 x w)
  generalize rotr x 25 = y at *
  go_enter Tryd.func126, Tryd.ntmps126
  go_wp2_with fail
  refine hR.out.mono ?_
  rintro e w' ⟨rfl, rfl⟩
  go_wp2
  go_ret
  exact ⟨rfl, rfl⟩

theorem rright_25 (x : Int) (w : World) :
    Calls Tryd.prog 158 #[.int .u32 x, .int .i64 25] w fun e w' => e = .returned (.int .u32 (rotr x 25)) ∧ Up w w' := by
  go_enter Tryd.func158, Tryd.ntmps158
  go_wp2
  go_quiet (fail)
  go_wp2
  go_ret
  exact ⟨rfl, (Up.refl w).drewN _⟩
end Go.Proofs.YtdlcmpbpdbpanaaDoor
namespace Go.Proofs.YtdlcmpbpdbpanaaDoor
open Go.RowKit Go.Sp
set_option maxHeartbeats 2000000
set_option maxRecDepth 20000

/-- The first j bytes of the i-th word. -/
def wordTo (b : Nat → Int) (i : Nat) : Nat → Int
  | 0 => 0
  | j + 1 => wordTo b i j * 256 + b (4 * i + j)

theorem wordTo_four (b : Nat → Int) (i : Nat) : wordTo b i 4 = wordB b i := by simp [wordTo, wordB]

theorem wordTo_range {b : Nat → Int} (h : Byt b) (i : Nat) : ∀ j, 0 ≤ wordTo b i j ∧ wordTo b i j < 256 ^ j
  | 0 => by simp [wordTo]
  | j + 1 => by
    have ih := wordTo_range h i j
    have hb := h (4 * i + j)
    have e : (256 : Int) ^ (j + 1) = 256 ^ j * 256 := Int.pow_succ _ _
    rw [wordTo, e]
    omega

theorem or_byte (x c : Int) (h0 : 0 ≤ x) (h1 : x < 16777216) (h2 : 0 ≤ c) (h3 : c ≤ 255) : bits .or .u32 (x * 256) c = x * 256 + c := by
  have := bits_join .u32 32 (by decide) (fun n a b => by rw [IntKind.wrap_u32]; omega) 8 (x := x * 256) (y := c) (by omega) (by omega) (by omega) (by omega) (by omega) (by omega)
  exact this

/-- The array of the words while it is filled: i words, and j bytes of the next one. -/
def wFill (b : Nat → Int) (i j : Nat) : Nat → Int := fun t => if t < i then wAt b t else if t = i then wordTo b i j else 0

def wPart (b : Nat → Int) (n : Nat) : Nat → Int := fun t => if t < n then wAt b t else 0

theorem zero64 : #[.int .u32 0, .int .u32 0, .int .u32 0, .int .u32 0, .int .u32 0, .int .u32 0, .int .u32 0, .int .u32 0, .int .u32 0, .int .u32 0, .int .u32 0, .int .u32 0, .int .u32 0, .int .u32 0, .int .u32 0, .int .u32 0,
    .int .u32 0, .int .u32 0, .int .u32 0, .int .u32 0, .int .u32 0, .int .u32 0, .int .u32 0, .int .u32 0, .int .u32 0, .int .u32 0, .int .u32 0, .int .u32 0, .int .u32 0, .int .u32 0, .int .u32 0, .int .u32 0,
    .int .u32 0, .int .u32 0, .int .u32 0, .int .u32 0, .int .u32 0, .int .u32 0, .int .u32 0, .int .u32 0, .int .u32 0, .int .u32 0, .int .u32 0, .int .u32 0, .int .u32 0, .int .u32 0, .int .u32 0, .int .u32 0,
    .int .u32 0, .int .u32 0, .int .u32 0, .int .u32 0, .int .u32 0, .int .u32 0, .int .u32 0, .int .u32 0, .int .u32 0, .int .u32 0, .int .u32 0, .int .u32 0, .int .u32 0, .int .u32 0, .int .u32 0, .int .u32 0] = arrK .u32 (fun _ => 0) 64 := by kernel_rfl

theorem wFill_zero (b : Nat → Int) (i : Nat) : arrK .u32 (wPart b i) 64 = arrK .u32 (wFill b i 0) 64 := arrK_congr fun t _ => by
  unfold wPart wFill wordTo
  split
  · rfl
  · split <;> rfl
theorem wFill_four (b : Nat → Int) {i : Nat} (hi : i < 16) : arrK .u32 (wFill b i 4) 64 = arrK .u32 (wPart b (i + 1)) 64 := arrK_congr fun t _ => by
  unfold wPart wFill
  by_cases h : t < i
  · rw [if_pos h, if_pos (by omega)]
  · rw [if_neg h]
    by_cases h2 : t = i
    · rw [if_pos h2, if_pos (by omega), wordTo_four, h2, wAt_low hi]
    · rw [if_neg h2, if_neg (by omega)]
theorem wFill_step (b : Nat → Int) (i j : Nat) : (arrK .u32 (wFill b i j) 64).setIfInBounds i (.int .u32 (wordTo b i j * 256 + b (4 * i + j))) = arrK .u32 (wFill b i (j + 1)) 64 := by
  rw [arrK_set]
  refine arrK_congr fun t _ => ?_
  unfold wFill
  by_cases h : t = i
  · subst h
    simp [wordTo]
  · simp [h]
theorem wPart_step (b : Nat → Int) (i : Nat) : (arrK .u32 (wPart b i) 64).setIfInBounds i (.int .u32 (wAt b i)) = arrK .u32 (wPart b (i + 1)) 64 := by
  rw [arrK_set]
  refine arrK_congr fun t _ => ?_
  unfold wPart
  by_cases h : t = i
  · subst h
    simp
  · have e1 : (t < i + 1) ↔ (t < i) := by omega
    simp [h, e1]
theorem wPart_all (b : Nat → Int) : arrK .u32 (wPart b 64) 64 = arrK .u32 (wAt b) 64 := arrK_congr fun t ht => by
  unfold wPart
  rw [if_pos ht]
theorem wPart_none (b : Nat → Int) : arrK .u32 (fun _ => 0) 64 = arrK .u32 (wPart b 0) 64 := arrK_congr fun t _ => by
  unfold wPart
  rw [if_neg (by omega)]
theorem wPart_at (b : Nat → Int) {i t : Nat} (h : t < i) (h2 : t < 64) : (arrK .u32 (wPart b i) 64)[t]? = some (.int .u32 (wAt b t)) := by
  rw [arrK_get h2, wPart, if_pos h]
theorem wPart_hole (b : Nat → Int) {i : Nat} (h2 : i < 64) : (arrK .u32 (wPart b i) 64)[i]? = some (.int .u32 0) := by
  rw [arrK_get h2, wPart, if_neg (by omega)]
theorem wFill_at (b : Nat → Int) {i j : Nat} (h2 : i < 64) : (arrK .u32 (wFill b i j) 64)[i]? = some (.int .u32 (wordTo b i j)) := by
  rw [arrK_get h2, wFill, if_neg (by omega), if_pos rfl]

theorem schedule_any (v : Value) (xs : List Int) (w : World) (hv : SeqAt .u8 w v xs) (hl : xs.length = 64) (hB : Byt fun j => xs.getD j 0) :
    Calls Tryd.prog 125 #[v] w fun e w' => e = .returned (.agg (arrK .u32 (wAt fun j => xs.getD j 0) 64)) ∧ Up w w' := by
  have HV := hid hv
  obtain ⟨b0, o0, c0, rfl, _⟩ := hv.cell (i := 0) (by omega)
  obtain ⟨_, cap, hshape, hcap1, hcap2⟩ := hv.shape
  simp only [Value.slice.injEq] at hshape
  obtain ⟨-, -, rfl⟩ := hshape
  rw [hl] at hcap1 HV
  rw [hl]
  have HL := hid hl
  obtain ⟨b, hb⟩ : ∃ b : Nat → Int, (fun j => xs.getD j 0) = b := ⟨_, rfl⟩
  rw [hb]
  rw [hb] at hB
  have Hb := hid hb
  have HB := hid hB
  clear hv hl hb hB
  go_enter Tryd.func125, Tryd.ntmps125
  go_wp2_with fail
  obtain ⟨o, ho⟩ : ∃ o, w.heap.size = o := ⟨_, rfl⟩
  rw [ho]
  go_loopw [12] (fun vi wr => ∃ i : Nat, i ≤ 16 ∧ vi = .int .i64 i ∧ Hid (Blk wr (o + 1) 178 (arrK .u32 (wPart b i) 64)) ∧ Hid (Blk wr o 178 (arrK .u32 (fun _ => 0) 64)) ∧ Hid (Up w wr)) (fun vi _ => 16 - (intOf vi).toNat)
  case atStart => exact ⟨0, by omega, rfl, hid (Blk.new (by simp [ho]) (zero64.trans (wPart_none b))), hid ((Blk.new ho zero64).alloc _), hid (((Up.refl w).alloc _).alloc _)⟩
  case round =>
    have HOo := hid ho
    clear ho
    obtain ⟨i, hi, rfl, HW, HR, HU⟩ := hrel
    by_cases hlt : i < 16
    · go_wp2_with fail
      go_loopw [23] (fun vj wr2 => ∃ j : Nat, j ≤ 4 ∧ vj = .int .i64 j ∧ Hid (Blk wr2 (o + 1) 178 (arrK .u32 (wFill b i j) 64)) ∧ Hid (Blk wr2 o 178 (arrK .u32 (fun _ => 0) 64)) ∧ Hid (Up w wr2)) (fun vj _ => 4 - (intOf vj).toNat)
      case atStart => exact ⟨0, by omega, rfl, hid (by rw [← wFill_zero]; exact HW.out), HR, HU⟩
      case round =>
        clear HW HR HU
        obtain ⟨j, hj, rfl, HW, HR, HU⟩ := hrel
        rename_i wr2 _
        by_cases hjl : j < 4
        · obtain ⟨b1, o1, c1, hsh, hx⟩ := (HV.out.up HU.out).cell (i := 4 * i + j) (by rw [HL.out]; omega)
          simp only [Value.slice.injEq, Option.some.injEq, Addr.mk.injEq] at hsh
          obtain ⟨⟨rfl, rfl, -⟩, -, -⟩ := hsh
          rw [← Nat.add_assoc, show xs.getD (4 * i + j) 0 = b (4 * i + j) from congrFun Hb.out _] at hx
          have hw := HW.out.val (wFill_at b (i := i) (j := j) (by omega))
          have hf := HW.out.thawed i
          have HS := hid (wFill_step b i j)
          have r1 := wordTo_range HB.out i j
          have r2 : (256 : Int) ^ j ≤ 16777216 := by
            have : j = 0 ∨ j = 1 ∨ j = 2 ∨ j = 3 := by omega
            rcases this with rfl | rfl | rfl | rfl <;> decide
          have r3 := HB.out (4 * i + j)
          generalize wordTo b i j = x at *
          generalize b (4 * i + j) = c at *
          have hor := or_byte x c r1.1 (by omega) r3.1 r3.2
          have hcm : c % 4294967296 = c := by omega
          have x0 := r1.1
          have x1 : x < 16777216 := by omega
          clear r1 r2 r3
          go_wp2_with fail
          go_roundw
          case rel => exact ⟨j + 1, by omega, by go_num, hid (by rw [← HS.out]; exact HW.out.wrote _ _), hid (HR.out.apart (by simp) _), hid (HU.out.setCell (by simp; have := HOo.out; omega) _)⟩
          case measure => simp [intOf]; omega
        · obtain rfl : j = 4 := by omega
          have HW2 := hid HW.out
          rw [wFill_four b hlt] at HW2
          clear HW hjl
          go_wp2_with fail
          go_roundw
          case rel => exact ⟨i + 1, by omega, by go_num, HW2, HR, HU⟩
          case measure => simp [intOf]; omega
    · have HW16 := hid HW.out
      rw [show i = 16 by omega] at HW16
      clear HW
      go_wp2_with fail
      go_loopw [7] (fun vt wr2 => ∃ t : Nat, 16 ≤ t ∧ t ≤ 64 ∧ vt = .int .i64 t ∧ Hid (Blk wr2 (o + 1) 178 (arrK .u32 (wPart b t) 64)) ∧ Hid (Blk wr2 o 178 (arrK .u32 (fun _ => 0) 64)) ∧ Hid (Up w wr2)) (fun vt _ => 64 - (intOf vt).toNat)
      case atStart => exact ⟨16, by omega, by omega, rfl, HW16, HR, HU⟩
      case round =>
        clear HW16 HR HU
        obtain ⟨t, ht0, ht, rfl, HW, HR, HU⟩ := hrel
        by_cases htl : t < 64
        · have q1 := HW.out.val (wPart_at b (i := t) (t := t - 15) (by omega) (by omega))
          have q2 := HW.out.val (wPart_at b (i := t) (t := t - 2) (by omega) (by omega))
          have q3 := HW.out.val (wPart_at b (i := t) (t := t - 16) (by omega) (by omega))
          have q4 := HW.out.val (wPart_at b (i := t) (t := t - 7) (by omega) (by omega))
          have q5 := HW.out.val (wPart_hole b (i := t) (by omega))
          have q6 := HW.out.thawed t
          have HS := hid (wPart_step b t)
          have HQ : Hid (∀ w3, Blk w3 (o + 1) 178 (arrK .u32 (wPart b t) 64) → w3.cell? ⟨o + 1, t - 16, none⟩ = some (.int .u32 (wAt b (t - 16))) ∧ w3.cell? ⟨o + 1, t - 7, none⟩ = some (.int .u32 (wAt b (t - 7))) ∧ w3.cell? ⟨o + 1, t, none⟩ = some (.int .u32 0)) := hid fun w3 h => ⟨h.val (wPart_at b (by omega) (by omega)), h.val (wPart_at b (by omega) (by omega)), h.val (wPart_hole b (by omega))⟩
          have HE := hid (wAt_high (b := b) ht0)
          have z1 : (15 : Int) ≤ t := by omega
          have z2 : (t : Int) < 64 := by omega
          generalize wAt b (t - 15) = x at *
          generalize wAt b (t - 2) = y at *
          generalize wAt b (t - 16) = p at *
          generalize wAt b (t - 7) = q at *
          go_wp2_with fail
          go_quiet (fail)
          go_wp2_with (go_at_call 126; first | ((with_reducible refine (right_7 _ _).mono ?_); rintro e w' ⟨rfl, rfl⟩) | ((with_reducible refine (right_18 _ _).mono ?_); rintro e w' ⟨rfl, rfl⟩) | ((with_reducible refine (right_17 _ _).mono ?_); rintro e w' ⟨rfl, rfl⟩) | ((with_reducible refine (right_19 _ _).mono ?_); rintro e w' ⟨rfl, rfl⟩))
          have hud := (Up.refl wr).drewN nq
          have HW2 := hid (HW.out.up hud)
          have HR2 := hid (HR.out.up hud)
          have HU2 := hid (HU.out.trans hud)
          clear hud q1 q2 q3 q4 q5 q6
          generalize wr.drewN nq = w3 at *
          obtain ⟨q3, q4, q5⟩ := HQ.out w3 HW2.out
          have q6 := HW2.out.thawed t
          clear HQ HW HR HU
          obtain ⟨s0, hs0⟩ : ∃ s0, sg0 x = s0 := ⟨_, rfl⟩
          obtain ⟨s1, hs1⟩ : ∃ s1, sg1 y = s1 := ⟨_, rfl⟩
          rw [show bits BinOp.xor IntKind.u32 (bits BinOp.xor IntKind.u32 (rotr x 7) (rotr x 18)) (x / 8) = s0 from hs0]
          rw [show bits BinOp.xor IntKind.u32 (bits BinOp.xor IntKind.u32 (rotr y 17) (rotr y 19)) (y / 1024) = s1 from hs1]
          rw [hs0, hs1] at HE
          have HE2 : Hid (wAt b t = (p + s0 + q + s1) % 4294967296) := hid (by rw [HE.out]; simp only [plus, IntKind.wrap_u32]; omega)
          clear hs0 hs1 HE
          go_region
          all_goals (
            go_wp2_with fail
            go_roundw
            case rel => exact ⟨t + 1, by omega, by omega, by go_num, hid (by rw [← HS.out, HE2.out]; exact (HW2.out.wrote _ _).up (Up.refl _).drew), hid ((HR2.out.apart (by simp) _).up (Up.refl _).drew), hid (HU2.out.setCell (by have := HOo.out; show w.heap.size ≤ o + 1; omega) _).drew⟩
            case measure => simp [intOf]; omega)
        · obtain rfl : t = 64 := by omega
          have HW2 := hid HW.out
          rw [wPart_all] at HW2
          clear HW htl ht ht0
          go_wp2_with (first | (refine wpList_load_row rfl 178 _ rfl _ rfl 178 _ (0, 0) _ HW2.out Tryd.underlying178 rfl (by rw [arrK_size]; kernel_rfl) ?_) | (refine wpList_store_row rfl 178 _ _ rfl _ _ rfl rfl 178 _ HR.out (by rw [arrK_size]; kernel_rfl) (by rw [arrK_size, arrK_size]) arrK_one ?_))
          refine bodyPost_ret (v := .agg (arrK .u32 (wAt b) 64)) (results_cell_row rfl _ _ o 178 _ (0, 0) _ (by rfl) (HR.out.row _) Tryd.underlying178 rfl (by rw [arrK_size]; kernel_rfl)) rfl ⟨rfl, HU.out.setRow (by have := HOo.out; omega) _⟩
end Go.Proofs.YtdlcmpbpdbpanaaDoor
