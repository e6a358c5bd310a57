/- Blocks that are known whole; rows of numbers. Over any program. Appends, whole-array stores, and texts as bytes: at an operation, and at a step of a region that draws its order. Over any program. Restrictive signatures: elements, messages, scalars, powers. Restrictive signatures: keys, offers, answers. Restrictive signatures: offers and answers. -/
import Derived.Test.YtdbhleinhpiohaaGreatDoorMB7
import Derived.Laws.Tables
import Derived.Laws.Rows
import Derived.Laws.IdiomStrings
import Derived.Great.BuildSlice
import Derived.RegionTactic
import Derived.Deep.MidRow
import Derived.Laws.ResultCell
import Derived.IntWalk
namespace Go.Sp
open Go.RowKit

/-- A block that is known whole. -/
def Blk (w : World) (g : Nat) (t : TypeId) (cs : Array Value) : Prop := w.heap[g]? = some (.cells cs t (0, 0))

section
variable {w w' : World} {g : Nat} {t : TypeId} {cs : Array Value}
theorem Blk.lt (h : Blk w g t cs) : g < w.heap.size := (Array.getElem?_eq_some_iff.1 h).1
theorem Blk.read (h : Blk w g t cs) (i : Nat) : w.cell? ⟨g, i, none⟩ = cs[i]? := by
  have h1 : w.heap[g]? = some (.cells cs t (0, 0)) := h
  simp [World.cell?, h1]
theorem Blk.val (h : Blk w g t cs) {i : Nat} {v : Value} (hv : cs[i]? = some v) : w.cell? ⟨g, i, none⟩ = some v := by rw [h.read i]; exact hv
theorem Blk.thawed (h : Blk w g t cs) (i : Nat) : w.frozen? ⟨g, i, none⟩ = false := by
  have h1 : w.heap[g]? = some (.cells cs t (0, 0)) := h
  simp [World.frozen?, h1]
theorem Blk.up (h : Blk w g t cs) (hU : Up w w') : Blk w' g t cs := (hU.block h.lt).trans h
theorem Blk.alloc (h : Blk w g t cs) (o : Obj) : Blk (w.alloc o) g t cs := h.up ((Up.refl w).alloc o)
theorem Blk.new {w : World} {g : Nat} {t : TypeId} {cs cs' : Array Value} (hg : w.heap.size = g) (hc : cs = cs') : Blk (w.alloc (.cells cs t)) g t cs' := by
  subst hg hc
  exact heap_alloc_new w _
theorem Blk.grown {row : Option Nat} (h : Blk w g t cs) (hg : w.grownBy w' row) (hr : some g ≠ row) : Blk w' g t cs := (hg.block g h.lt hr).trans h
theorem Blk.below {B : Nat} (h : Blk w g t cs) (hb : Below B w w') (hg : g < B) : Blk w' g t cs := (hb.block g hg).trans h
theorem Blk.apart (h : Blk w g t cs) {a : Addr} (ha : g ≠ a.block) (v : Value) : Blk (w.setCell a v) g t cs := (Below.heap_setCell w a v g ha).trans h
theorem Blk.wrote (h : Blk w g t cs) (i : Nat) (v : Value) : Blk (w.setCell ⟨g, i, none⟩ v) g t (cs.setIfInBounds i v) := by
  have h1 : w.heap[g]? = some (.cells cs t (0, 0)) := h
  unfold Blk
  simp [World.setCell, Array.getElem?_modify, h1]
theorem Blk.row (h : Blk w g t cs) (cs' : Array Value) : Blk (w.setRow g cs') g t cs' := setRow_heap w g cs cs' t (0, 0) h
theorem Blk.rowApart (h : Blk w g t cs) {k : Nat} (hk : g ≠ k) (cs' : Array Value) : Blk (w.setRow k cs') g t cs := (setRow_other w k g cs' hk).trans h
theorem Up.setRow {w0 : World} (h : Up w0 w) (hg : w0.heap.size ≤ g) (cs' : Array Value) : Up w0 (w.setRow g cs') := below_setRow h hg cs'
end

/-- A row of numbers. -/
def arrK (k : IntKind) (f : Nat → Int) (n : Nat) : Array Value := (Array.range n).map fun j => .int k (f j)

section
variable {k : IntKind} {f g : Nat → Int} {n : Nat}
theorem arrK_size : (arrK k f n).size = n := by simp [arrK]
theorem arrK_get {j : Nat} (hj : j < n) : (arrK k f n)[j]? = some (.int k (f j)) := by simp [arrK, hj]
theorem arrK_one : (arrK k f n).all (·.oneCell') = true := by
  rw [Array.all_eq_true]
  intro i h
  simp [arrK, Value.oneCell']
theorem arrK_congr (h : ∀ j, j < n → f j = g j) : arrK k f n = arrK k g n := by
  apply Array.ext
  · simp [arrK]
  · intro i h1 h2
    simp [arrK] at h1 ⊢
    exact h i h1
theorem arrK_set {i : Nat} (x : Int) : (arrK k f n).setIfInBounds i (.int k x) = arrK k (fun j => if j = i then x else f j) n := by
  apply Array.ext_getElem?
  intro j
  rw [Array.getElem?_setIfInBounds, arrK_size]
  by_cases hj : j < n
  · rw [arrK_get hj, arrK_get hj]
    by_cases h : i = j
    · subst h
      simp [hj]
    · have h2 : ¬ j = i := fun e => h e.symm
      simp [h, h2]
  · have h1 : (arrK k f n)[j]? = none := by simp [arrK, hj]
    have h2 : (arrK k (fun j => if j = i then x else f j) n)[j]? = none := by simp [arrK, hj]
    rw [h1, h2]
    split
    · split
      · omega
      · rfl
    · rfl
end

/-- Filled as far as i. -/
def pfill (f : Nat → Int) (i : Nat) : Nat → Int := fun j => if j < i then f j else 0
theorem pfill_zero (k : IntKind) (f : Nat → Int) (n : Nat) : arrK k (fun _ => 0) n = arrK k (pfill f 0) n := arrK_congr fun j _ => by simp [pfill]
theorem pfill_all (k : IntKind) (f : Nat → Int) (n : Nat) : arrK k (pfill f n) n = arrK k f n := arrK_congr fun j hj => by simp [pfill, hj]
theorem pfill_put (k : IntKind) (f : Nat → Int) (i n : Nat) : (arrK k (pfill f i) n).setIfInBounds i (.int k (f i)) = arrK k (pfill f (i + 1)) n := by
  rw [arrK_set]
  refine arrK_congr fun t _ => ?_
  unfold pfill
  by_cases h : t = i
  · subst h
    simp
  · have e1 : (t < i + 1) ↔ (t < i) := by omega
    simp [h, e1]
theorem pfill_at {k : IntKind} {f : Nat → Int} {i n : Nat} (hi : i < n) : (arrK k (pfill f i) n)[i]? = some (.int k 0) := by
  rw [arrK_get hi, pfill, if_neg (by omega)]

/-- How long a slice is. -/
def lenOf : Value → Nat
  | .slice _ n _ => n
  | _ => 0

@[simp] theorem lenOf_slice (a : Option Addr) (n c : Nat) : lenOf (.slice a n c) = n := rfl
theorem Blk.own {w : World} {g base : Nat} {e : TypeId} {k : IntKind} {f : Nat → Int} {n : Nat} (h : Blk w g e (arrK k f n)) (hb : base ≤ g) (hn : n ≤ 9223372036854775807) : OwnS e k w base (.slice (some ⟨g, 0, none⟩) n n) ((List.range n).map f) := by
  refine ⟨by simp, .inr ⟨g, n, _, by simp, hb, h, by simp, by unfold maxLen; omega, by simp [arrK], ?_⟩⟩
  rw [List.take_of_length_le (by simp [arrK])]
  simp [arrK]

theorem own_empty {w : World} {g base : Nat} {e : TypeId} {k : IntKind} (h : Blk w g e #[]) (hb : base ≤ g) : OwnS e k w base (.slice (some ⟨g, 0, none⟩) 0 0) [] :=
  ⟨by simp, .inr ⟨g, 0, _, rfl, hb, h, Nat.le_refl _, Nat.zero_le _, rfl, rfl⟩⟩

/-- A block of numbers read as a slice. -/
theorem Blk.seq {w : World} {b : Nat} {t : TypeId} {k : IntKind} {f : Nat → Int} {m : Nat} (h : Blk w b t (arrK k f m)) (lo n c : Nat) (h1 : lo + n ≤ m) (hnc : n ≤ c) (h63 : c ≤ 9223372036854775807) :
    SeqAt k w (.slice (some ⟨b, lo, none⟩) n c) ((List.range n).map fun i => f (lo + i)) :=
  seq_block h _ lo n c (by simp) hnc h63 fun i hi => by
    rw [arrK_get (by omega)]
    simp [hi]
end Go.Sp
namespace Go.Sp
open Go.RowKit

/-- append(v, u...) onto the call's own: at the operation. -/
theorem op_app {P : Program} {e t : TypeId} {k : IntKind} {bytes : Nat} (hI : (P.info? e).map (fun i => (i.zero, i.size, i.bytes)) = some (some (.int k 0), 1, bytes)) (ht : P.underlying t = some (.slice e)) (hby : bytes ≤ 8)
    {o : Oper} {a : Act} {w : World} {K : Act → World → Prop} {Q : Exit → Act → World → Prop} (s x : Operand)
    (ho : o.op = .call { callee := .builtin .append, args := #[s, x], argTypes := #[t, t] })
    (base : Nat) {v u : Value} {xs ys : List Int} (hs : a.eval s = v) (hx : a.eval x = u) (hown : OwnS e k w base v xs) (hsrc : SeqAt k w u ys) (hroom : xs.length + ys.length ≤ 17592186044416) (hbase : base ≤ w.heap.size)
    (h : ∀ v' w', OwnS e k w' base v' (xs ++ ys) → w.grownBy w' v.ownBlock → K (a.put o.dst v') w') : o.wp P a w K Q := by
  obtain ⟨i0, hi, hz0, hz1, hz2⟩ := info_parts hI
  obtain ⟨ad, cap, rfl, _, _, hcap, hc⟩ := hsrc
  have hown' : w.ownsRow base e 1 v xs.length (xs.map (Value.int k)) := hown
  by_cases hne : ys = []
  · subst hne
    cases ad with
    | none =>
      have hcap := hcap rfl
      subst hcap
      have hrun := run_append_owned_none (P := P) (w := w) base t o.type e i0 1 ht hi v xs.length _ hown'
      unfold Oper.wp execOp
      simp only [ho, resolve, invoke, builtin, Sem.run_bind, Sem.run_pure, Result.andThen_ok, List.map_toArray, List.map_cons, List.map_nil, hs, hx, List.length_nil, hrun]
      exact h v w (by rw [List.append_nil]; exact hown) (World.grownBy.refl _ _)
    | some ad =>
      refine wp_append_own w s x t ho base e i0 (.int k 0) 1 bytes ht hi hz0 hz1 hz2 rfl (by decide) v xs.length _ hs hown' ad 0 cap [] hx rfl (fun j u hj => by simp at hj) (fun u hu => by cases hu) (by unfold maxLen; omega) (by
        have := Nat.mul_le_mul (show xs.length + 0 ≤ 17592186044416 by simp at hroom; omega) hby
        omega) hbase fun v' w' h1 h2 _ => h v' w' (by
          unfold OwnS
          rw [List.append_nil]
          simpa using h1) h2
  · obtain ⟨b, off, rfl, hcell⟩ := hc hne
    refine wp_append_own w s x t ho base e i0 (.int k 0) 1 bytes ht hi hz0 hz1 hz2 rfl (by decide) v xs.length _ hs hown' ⟨b, off, none⟩ ys.length cap (ys.map (Value.int k)) hx (by simp) (fun j u hj => by
        simp only [List.getElem?_map, Option.map_eq_some_iff] at hj
        obtain ⟨y, hy, rfl⟩ := hj
        have hj2 : j < ys.length := (List.getElem?_eq_some_iff.1 hy).1
        have := hcell j hj2
        rw [Addr.add_lit, this]
        simp [hy]) (ints_oneCell _ _) (by unfold maxLen; omega) (by
        have := Nat.mul_le_mul hroom hby
        omega) hbase fun v' w' h1 h2 _ => h v' w' (by
          unfold OwnS
          rw [List.length_append, List.map_append]
          exact h1) h2

/-- The same at a step of a region that draws its order. -/
theorem step_app {P : Program} {e t : TypeId} {k : IntKind} {bytes : Nat} (hI : (P.info? e).map (fun i => (i.zero, i.size, i.bytes)) = some (some (.int k 0), 1, bytes)) (ht : P.underlying t = some (.slice e)) (hby : bytes ≤ 8)
    {ops : Array Oper} {o : Oper} {a : Act} {w : World} {K : Act → World → Prop} {Q : Exit → Act → World → Prop} {E : Prop} (hgd : o.guard = none) (s x : Operand)
    (ho : o.op = .call { callee := .builtin .append, args := #[s, x], argTypes := #[t, t] })
    (base : Nat) {v u : Value} {xs ys : List Int} (hs : a.eval s = v) (hx : a.eval x = u) (hown : OwnS e k w base v xs) (hsrc : SeqAt k w u ys) (hroom : xs.length + ys.length ≤ 17592186044416) (hbase : base ≤ w.heap.size)
    (h : ∀ v' w', OwnS e k w' base v' (xs ++ ys) → w.grownBy w' v.ownBlock → K (a.put o.dst v') w') : if Region.wanted o (yielded ops a.tmps) = true then Oper.wp P o a w K Q else E := by
  have hw : Region.wanted o (yielded ops a.tmps) = true := by simp [Region.wanted, hgd]
  rw [if_pos hw]
  exact op_app hI ht hby s x ho base hs hx hown hsrc hroom hbase h

theorem step_store_row {P : Program} {ops : Array Oper} {o : Oper} {a : Act} {w : World} {K : Act → World → Prop} {Q : Exit → Act → World → Prop} {E : Prop} (hgd : o.guard = none) (ty : TypeId) (x y : Operand) (ho : o.op = .store ty x y) (hd : o.dst = none)
    (g : Nat) (cells : Array Value) (hx : a.eval x = .pointer (some ⟨g, 0, none⟩)) (hy : a.eval y = .agg cells)
    (t : TypeId) (old : Array Value) (hg : w.heap[g]? = some (.cells old t (0, 0))) (hi : (P.info? ty).map (·.size) = some cells.size)
    (hold : old.size = cells.size) (h1 : cells.all (·.oneCell') = true)
    (h : K a (w.setRow g cells)) : if Region.wanted o (yielded ops a.tmps) = true then Oper.wp P o a w K Q else E := by
  have hw : Region.wanted o (yielded ops a.tmps) = true := by simp [Region.wanted, hgd]
  rw [if_pos hw]
  exact wp_store_row ty x y ho g cells hx hy t old hg hi hold h1 (by rw [hd]; exact h)

/-- A whole row stored cell by cell. -/
theorem setCells_row {g : Nat} {t : TypeId} : ∀ (cs pre post : List Value) (w : World), w.heap[g]? = some (.cells (pre ++ post).toArray t (0, 0)) → post.length = cs.length →
    (w.setCells g pre.length cs).heap[g]? = some (.cells (pre ++ cs).toArray t (0, 0))
  | [], pre, post, w, h, hl => by
    have : post = [] := List.length_eq_zero_iff.1 hl
    subst this
    exact h
  | v :: cs, pre, [], w, _, hl => by simp at hl
  | v :: cs, pre, p :: post, w, h, hl => by
    have h1 := heap_setCell_same w g pre.length _ t v h
    have e : ((pre ++ p :: post).toArray.setIfInBounds pre.length v) = ((pre ++ [v]) ++ post).toArray := by
      simp
    rw [e] at h1
    have := setCells_row cs (pre ++ [v]) post _ h1 (by simpa using hl)
    rw [World.setCells]
    simpa using this

theorem Blk.mid {w : World} {g : Nat} {t : TypeId} {old : Array Value} (h : Blk w g t old) (cs : List Value) (hl : old.size = cs.length) : Blk (w.setCells g 0 cs) g t cs.toArray := by
  have h' : w.heap[g]? = some (.cells ([] ++ old.toList).toArray t (0, 0)) := by
    have h0 : w.heap[g]? = some (.cells old t (0, 0)) := h
    simpa using h0
  have := setCells_row (g := g) (t := t) cs [] old.toList w h' (by simpa using hl)
  show (w.setCells g 0 cs).heap[g]? = some (.cells cs.toArray t (0, 0))
  simpa using this

theorem Up.setCells {w0 : World} {g : Nat} (hg : w0.heap.size ≤ g) : ∀ (cs : List Value) (i : Nat) {w : World}, Up w0 w → Up w0 (w.setCells g i cs)
  | [], _, _, h => h
  | v :: cs, i, w, h => by
    rw [World.setCells]
    exact Up.setCells hg cs (i + 1) (h.setCell hg v)

theorem Blk.there {w : World} {g : Nat} {t : TypeId} {cs : Array Value} {n : Nat} (h : Blk w g t cs) (hn : n ≤ cs.size) : w.there g 0 n := fun j hj => by
  rw [h.read, h.thawed]
  simp
  omega

/-- Whatever world. -/
def AnyW (_ : World) : Prop := True
theorem anyW (w : World) : AnyW w := trivial

/-- Results: a whole row, and slots. -/
theorem results_row_tmp {P : Program} {fn : Func} {p u : Tmp} {ty : TypeId} (h : fn.results = #[.cell p ty, .tmp u]) (tmps : Array Value) (w : World) (g : Nat) (t : TypeId) (cs : Array Value) (fr : Nat × Nat) (d : TypeDesc)
    (hp : tmps.getD p undef = .pointer (some ⟨g, 0, none⟩)) (hg : w.heap[g]? = some (.cells cs t fr))
    (hu : P.underlying ty = some d) (hd : (match d with | .struct _ | .array _ _ => true | _ => false) = true) (hi : (P.info? ty).map (·.size) = some cs.size) :
    (results fn tmps).run P w = .ok (.tuple #[.agg cs, tmps.getD u undef]) w := by
  rw [results_cell_tmp h, hp]
  simp [asAddr, Sem.run_pure, Result.andThen, run_loadVar_row w g t ty cs fr d hg hu hd hi]

theorem results_row_tmp2 {P : Program} {fn : Func} {p u v : Tmp} {ty : TypeId} (h : fn.results = #[.cell p ty, .tmp u, .tmp v]) (tmps : Array Value) (w : World) (g : Nat) (t : TypeId) (cs : Array Value) (fr : Nat × Nat) (d : TypeDesc)
    (hp : tmps.getD p undef = .pointer (some ⟨g, 0, none⟩)) (hg : w.heap[g]? = some (.cells cs t fr))
    (hu : P.underlying ty = some d) (hd : (match d with | .struct _ | .array _ _ => true | _ => false) = true) (hi : (P.info? ty).map (·.size) = some cs.size) :
    (results fn tmps).run P w = .ok (.tuple #[.agg cs, tmps.getD u undef, tmps.getD v undef]) w := by
  have hp' : tmps[p]?.getD undef = .pointer (some ⟨g, 0, none⟩) := by simpa using hp
  simp only [results, h]
  simp [Result.andThen, hp', asAddr, run_loadVar_row w g t ty cs fr d hg hu hd hi]

/-- A text as bytes. -/
def txt (s : ByteArray) : List Int := s.data.toList.map fun c => (c.toNat : Int)
theorem txt_length (s : ByteArray) : (txt s).length = s.size := by rw [txt, List.length_map]; rfl
theorem txt_byt (s : ByteArray) : ∀ x ∈ txt s, 0 ≤ x ∧ x ≤ 255 := by
  intro x hx
  simp only [txt, List.mem_map] at hx
  obtain ⟨c, _, rfl⟩ := hx
  have : c.toNat < 256 := c.toNat_lt
  omega

theorem seq_text (w : World) (s : ByteArray) (c : Nat) (e : TypeId) (fr : Nat × Nat) (hc : s.size ≤ c) (h63 : c ≤ 9223372036854775807) :
    SeqAt .u8 (w.alloc (.cells (bytesRow s c) e fr)) (.slice (some ⟨w.heap.size, 0, none⟩) s.size c) (txt s) :=
  seq_block (heap_alloc_new w _) (txt s) 0 s.size c (txt_length s) hc h63 fun i hi => by
    have hi2 : i < s.data.size := hi
    rw [Nat.zero_add, bytesRow, Array.getElem?_append_left (by simpa using hi2)]
    simp [txt, Array.getElem?_eq_getElem hi2]

theorem seq_text_at {w : World} {g : Nat} (s : ByteArray) (c : Nat) (e : TypeId) (fr : Nat × Nat) (hg : w.heap.size = g) (hc : s.size ≤ c) (h63 : c ≤ 9223372036854775807) :
    SeqAt .u8 (w.alloc (.cells (bytesRow s c) e fr)).drew (.slice (some ⟨g, 0, none⟩) s.size c) (txt s) := by
  subst hg
  exact (seq_text w s c e fr hc h63).up (Up.refl _).drew
theorem cap_ge {w : World} {n : Nat} {e : TypeId} : n ≤ grownCap w n 0 e := grownCap_ge _ _ _ _
theorem cap_le {w : World} {n : Nat} {e : TypeId} (h : n ≤ 9223372036854775807) : grownCap w n 0 e ≤ 9223372036854775807 := by
  have := grownCap_le_maxLen w n 0 e (by unfold maxLen; omega)
  unfold maxLen at this
  omega
end Go.Sp
namespace Go.Proofs.YtdbhleinhpiohaaGreatDoor
open Go.RowKit Go.Sp
set_option maxHeartbeats 2000000
set_option maxRecDepth 20000

/-- A scalar other than 0. -/
def nzB (Q x : Int) : Bool := decide (1 ≤ x) && decide (x < Q)
theorem nzB_iff {Q x : Int} : nzB Q x = true ↔ 1 ≤ x ∧ x < Q := by simp [nzB]
/-- A power, by a scalar. -/
def pwi (P a e : Int) : Int := pw a e.toNat P
theorem pwi_range {P a e : Int} (h : 0 < P) : 0 ≤ pwi P a e ∧ pwi P a e < P := ⟨pw_nonneg _ _ h, pw_lt _ _ h⟩

theorem resElement_any (P Q G A B C x : Int) (w : World) (g1 : P < 2305843009213693952) (g3 : 0 ≤ Q) (hQ : Q ≤ 9223372036854775807) :
    Calls Tryz.prog 75 #[bas P Q G A B C, .int .i64 x] w fun e w' => e = .returned (.bool (elB P Q x)) ∧ Up w w' := by
  have HB : Hid (elB P Q x = (decide (1 ≤ x) && decide (x < P) && decide (pw x Q.toNat P = 1))) := hid rfl
  generalize elB P Q x = X at *
  by_cases c1 : x < 1
  case pos =>
    have hB : X = false := by rw [HB.out]; simp; omega
    subst hB
    go_enter Tryz.func75, Tryz.ntmps75
    go_wp2
    go_ret
    exact ⟨rfl, (Up.refl w).alloc _⟩
  have d1 : decide (x < 1) = false := by simpa using c1
  by_cases c2 : x ≥ P
  case pos =>
    have hB : X = false := by rw [HB.out]; simp; omega
    subst hB
    have d2 : decide (x ≥ P) = true := by simpa using c2
    go_enter Tryz.func75, Tryz.ntmps75
    go_wp2
    go_ret
    exact ⟨rfl, (Up.refl w).alloc _⟩
  have d2 : decide (x ≥ P) = false := by simpa using c2
  have HB2 : Hid (X = decide (pw x Q.toNat P = 1)) := hid (by rw [HB.out, show decide (1 ≤ x) = true by simp; omega, show decide (x < P) = true by simp; omega]; rfl)
  clear HB
  go_enter Tryz.func75, Tryz.ntmps75
  go_wp2_with fail
  refine (Pow_ok x Q P _ (by omega) (by omega) g3 hQ g1).mono ?_
  rintro e w3 ⟨rfl, hU3⟩
  go_wp2
  go_ret
  refine ⟨?_, ((Up.refl w).alloc _).trans hU3⟩
  rw [HB2.out]
  exact congrArg (fun b => Ending.returned (.bool b)) (by rw [Bool.eq_iff_iff]; simp)

theorem resMessage_any (P Q G A B C x : Int) (w : World) (g1 : P < 2305843009213693952) (g3 : 0 ≤ Q) (hQ : Q ≤ 9223372036854775807) :
    Calls Tryz.prog 69 #[bas P Q G A B C, .int .i64 x] w fun e w' => e = .returned (.bool (gnB P Q x)) ∧ Up w w' := by
  by_cases hx : x = 1
  · have d1 : (x != 1) = false := by simpa using hx
    have hB : gnB P Q x = false := by simp [gnB, hx]
    rw [hB]
    clear hx hB
    go_enter Tryz.func69, Tryz.ntmps69
    go_wp2
    go_ret
    exact ⟨rfl, (Up.refl w).alloc _⟩
  · have d1 : (x != 1) = true := by simpa using hx
    have hB : gnB P Q x = elB P Q x := by simp [gnB, hx]
    rw [hB]
    clear hx hB
    go_enter Tryz.func69, Tryz.ntmps69
    go_wp2_with fail
    refine (resElement_any P Q G A B C x _ g1 g3 hQ).mono ?_
    rintro e w3 ⟨rfl, hU3⟩
    go_wp2
    go_ret
    exact ⟨rfl, ((Up.refl w).alloc _).trans hU3⟩

theorem resScalar_any (P Q G A B C x : Int) (w : World) :
    Calls Tryz.prog 71 #[bas P Q G A B C, .int .i64 x] w fun e w' => e = .returned (.bool (exB Q x)) ∧ Up w w' := by
  have HB : Hid (exB Q x = (decide (0 ≤ x) && decide (x < Q))) := hid rfl
  generalize exB Q x = X at *
  by_cases c1 : x ≥ 0
  case neg =>
    have hB : X = false := by rw [HB.out]; simp; omega
    subst hB
    have d1 : decide (x ≥ 0) = false := by simpa using c1
    go_enter Tryz.func71, Tryz.ntmps71
    go_wp2
    go_ret
    exact ⟨rfl, (Up.refl w).alloc _⟩
  have d1 : decide (x ≥ 0) = true := by simpa using c1
  have HB2 : Hid (X = decide (x < Q)) := hid (by rw [HB.out, show decide (0 ≤ x) = true by simp; omega]; rfl)
  clear HB
  go_enter Tryz.func71, Tryz.ntmps71
  go_wp2
  go_ret
  exact ⟨by rw [HB2.out]; rfl, (Up.refl w).alloc _⟩

theorem resNonzero_any (P Q G A B C x : Int) (w : World) :
    Calls Tryz.prog 70 #[bas P Q G A B C, .int .i64 x] w fun e w' => e = .returned (.bool (nzB Q x)) ∧ Up w w' := by
  have HB : Hid (nzB Q x = (decide (1 ≤ x) && decide (x < Q))) := hid rfl
  generalize nzB Q x = X at *
  by_cases c1 : x > 0
  case neg =>
    have hB : X = false := by rw [HB.out]; simp; omega
    subst hB
    have d1 : decide (x > 0) = false := by simpa using c1
    go_enter Tryz.func70, Tryz.ntmps70
    go_wp2
    go_ret
    exact ⟨rfl, (Up.refl w).alloc _⟩
  have d1 : decide (x > 0) = true := by simpa using c1
  have HB2 : Hid (X = decide (x < Q)) := hid (by rw [HB.out, show decide (1 ≤ x) = true by simp; omega]; rfl)
  clear HB
  go_enter Tryz.func70, Tryz.ntmps70
  go_wp2
  go_ret
  exact ⟨by rw [HB2.out]; rfl, (Up.refl w).alloc _⟩

theorem resPower_ok (P Q G A B C a e : Int) (w : World) (h0 : 0 ≤ a) (h1 : a < P) (h2 : 0 ≤ e) (h3 : e ≤ 9223372036854775807) (g1 : P < 2305843009213693952) :
    Calls Tryz.prog 72 #[bas P Q G A B C, .int .i64 a, .int .i64 e] w fun r w' => r = .returned (.int .i64 (pwi P a e)) ∧ Up w w' := by
  have HV : Hid (pwi P a e = pw a e.toNat P) := hid rfl
  go_enter Tryz.func72, Tryz.ntmps72
  go_wp2_with fail
  refine (Pow_ok a e P _ h0 h1 h2 h3 g1).mono ?_
  rintro r w3 ⟨rfl, hU3⟩
  go_wp2
  go_ret
  exact ⟨by rw [HV.out]; rfl, ((Up.refl w).alloc _).trans hU3⟩

/-- A key as a value. -/
abbrev bkey (x y z : Int) : Value := .agg #[.int .i64 x, .int .i64 y, .int .i64 z]

theorem Up.there {w w' : World} {b n : Nat} (hU : Up w w') (hb : b < w.heap.size) (h : w.there b 0 n) : w'.there b 0 n := fun j hj => by
  obtain ⟨h1, h2⟩ := h j hj
  exact ⟨by rw [hU.cell hb]; exact h1, by rw [hU.frozen hb]; exact h2⟩
end Go.Proofs.YtdbhleinhpiohaaGreatDoor
namespace Go.Proofs.YtdbhleinhpiohaaGreatDoor
open Go.RowKit Go.Sp
set_option maxHeartbeats 2000000
set_option maxRecDepth 20000

/-- The error of bases (are they valid?) and further arguments (are they in range?). -/
def errE (bv ok : Bool) : Int := if bv = true then (if ok = true then 0 else 2) else 1
/-- A value, or 0 beside an error. -/
def orZ (E v : Int) : Int := if E = 0 then v else 0

theorem three_reads {w w1 : World} {o : Obj} {x y z : Int} {t : TypeId} (hU : Up ((w.alloc o).alloc (.cells #[.int .i64 x, .int .i64 y, .int .i64 z] t)) w1) : GrpAt w1 (w.heap.size + 1) x y z := by
  have h : GrpAt ((w.alloc o).alloc (.cells #[.int .i64 x, .int .i64 y, .int .i64 z] t)) (w.heap.size + 1) x y z :=
    ⟨by go_simp, by go_simp, by go_simp⟩
  exact h.up hU

theorem gn_el {P Q x : Int} (h : gnB P Q x = true) : elB P Q x = true := by
  simp only [gnB, Bool.and_eq_true] at h; exact h.2

theorem blk_three {w : World} {r : Nat} {t : TypeId} {a b c : Value} (h : Blk w r t #[a, b, c]) (x y z : Value) : Blk (((w.setCell ⟨r, 0, none⟩ x).setCell ⟨r, 1, none⟩ y).setCell ⟨r, 2, none⟩ z) r t #[x, y, z] :=
  ((h.wrote 0 x).wrote 1 y).wrote 2 z

/-- What the region of Key keeps. -/
theorem keepB {w0 w w' : World} {o : Nat} {P Q G A B C : Int} (hU : Up w w')
    (h : w.cell? ⟨o, 0, none⟩ = some (.int .i64 P) ∧ w.cell? ⟨o, 1, none⟩ = some (.int .i64 Q) ∧ w.cell? ⟨o, 2, none⟩ = some (.int .i64 G) ∧ w.cell? ⟨o, 3, none⟩ = some (.int .i64 A) ∧ w.cell? ⟨o, 4, none⟩ = some (.int .i64 B) ∧ w.cell? ⟨o, 5, none⟩ = some (.int .i64 C) ∧ Hid (Up w0 w)) :
    w'.cell? ⟨o, 0, none⟩ = some (.int .i64 P) ∧ w'.cell? ⟨o, 1, none⟩ = some (.int .i64 Q) ∧ w'.cell? ⟨o, 2, none⟩ = some (.int .i64 G) ∧ w'.cell? ⟨o, 3, none⟩ = some (.int .i64 A) ∧ w'.cell? ⟨o, 4, none⟩ = some (.int .i64 B) ∧ w'.cell? ⟨o, 5, none⟩ = some (.int .i64 C) ∧ Hid (Up w0 w') :=
  ⟨cellUp hU h.1, cellUp hU h.2.1, cellUp hU h.2.2.1, cellUp hU h.2.2.2.1, cellUp hU h.2.2.2.2.1, cellUp hU h.2.2.2.2.2.1, hid (h.2.2.2.2.2.2.out.trans hU)⟩

theorem keepBStore {w0 w w' : World} {o r : Nat} {P Q G A B C : Int} {x y z : Value} (hr : o ≠ r) (hb : w0.heap.size ≤ r) (hw : w' = ((w.setCell ⟨r, 0, none⟩ x).setCell ⟨r, 1, none⟩ y).setCell ⟨r, 2, none⟩ z)
    (h : w.cell? ⟨o, 0, none⟩ = some (.int .i64 P) ∧ w.cell? ⟨o, 1, none⟩ = some (.int .i64 Q) ∧ w.cell? ⟨o, 2, none⟩ = some (.int .i64 G) ∧ w.cell? ⟨o, 3, none⟩ = some (.int .i64 A) ∧ w.cell? ⟨o, 4, none⟩ = some (.int .i64 B) ∧ w.cell? ⟨o, 5, none⟩ = some (.int .i64 C) ∧ Hid (Up w0 w)) :
    w'.cell? ⟨o, 0, none⟩ = some (.int .i64 P) ∧ w'.cell? ⟨o, 1, none⟩ = some (.int .i64 Q) ∧ w'.cell? ⟨o, 2, none⟩ = some (.int .i64 G) ∧ w'.cell? ⟨o, 3, none⟩ = some (.int .i64 A) ∧ w'.cell? ⟨o, 4, none⟩ = some (.int .i64 B) ∧ w'.cell? ⟨o, 5, none⟩ = some (.int .i64 C) ∧ Hid (Up w0 w') := by
  subst hw
  obtain ⟨h0, h1, h2, h3, h4, h5, hU⟩ := h
  have key : ∀ i, (((w.setCell ⟨r, 0, none⟩ x).setCell ⟨r, 1, none⟩ y).setCell ⟨r, 2, none⟩ z).cell? ⟨o, i, none⟩ = w.cell? ⟨o, i, none⟩ := fun i => by
    rw [World.cell?_setCell_other, World.cell?_setCell_other, World.cell?_setCell_other] <;> exact fun h => hr (congrArg Addr.block h).symm
  refine ⟨(key _).trans h0, (key _).trans h1, (key _).trans h2, (key _).trans h3, (key _).trans h4, (key _).trans h5, hid (((hU.out.setCell ?_ _).setCell ?_ _).setCell ?_ _)⟩ <;> exact hb

theorem keptUp {w0 w : World} {a b c d e f : Prop} (h : a ∧ b ∧ c ∧ d ∧ e ∧ f ∧ Hid (Up w0 w)) : Up w0 w := h.2.2.2.2.2.2.out

/-- A key that is valid for bases. -/
def kvB (P Q G A B C x y z : Int) : Bool := bvB P Q G A B C && (gnB P Q x && (gnB P Q y && gnB P Q z))

theorem resValid_any (P Q G A B C x y z : Int) (w : World) (hP : -9223372036854775808 ≤ P) (hQ : Q ≤ 9223372036854775807) (hT : Tab w) :
    Calls Tryz.prog 35 #[bas P Q G A B C, bkey x y z] w fun e w' => e = .returned (.bool (kvB P Q G A B C x y z)) ∧ Up w w' := by
  have HT := hid hT
  have HB : Hid (kvB P Q G A B C x y z = (bvB P Q G A B C && (gnB P Q x && (gnB P Q y && gnB P Q z)))) := hid rfl
  generalize kvB P Q G A B C x y z = X at *
  clear hT
  go_enter Tryz.func35, Tryz.ntmps35
  go_wp2_with fail
  have HA := hid (bas_reads (o := .cells #[.int .i64 P, .int .i64 Q, .int .i64 G, .int .i64 A, .int .i64 B, .int .i64 C] 25) rfl ((Up.refl (w.alloc _)).alloc (.cells #[.int .i64 x, .int .i64 y, .int .i64 z] 27)))
  have HK := hid (three_reads (w := w) (o := .cells #[.int .i64 P, .int .i64 Q, .int .i64 G, .int .i64 A, .int .i64 B, .int .i64 C] 25) (x := x) (y := y) (z := z) (t := 27) (Up.refl _))
  refine (bValid_any P Q G A B C _ hP hQ (HT.out.up (((Up.refl w).alloc _).alloc _))).mono ?_
  rintro e w1 ⟨rfl, hU1⟩
  have HA1 := hid (HA.out.up hU1)
  have HK1 := hid (HK.out.up hU1)
  have HU1 := hid ((((Up.refl w).alloc _).alloc _).trans hU1)
  clear hU1 HA HK
  obtain ⟨⟨c0, c1, c2⟩, c3, c4, c5⟩ := HA1.out
  obtain ⟨e0, e1, e2⟩ := HK1.out
  by_cases hg : bvB P Q G A B C = true
  case neg =>
    have hg' : bvB P Q G A B C = false := by simpa using hg
    have hX : X = false := by rw [HB.out, hg']; rfl
    subst hX
    rw [hg']
    clear hg hg'
    go_wp2
    go_ret
    exact ⟨rfl, HU1.out⟩
  have g := gv_iff.1 (bv_iff.1 hg).1
  have g1 := g.P61
  have g3 := g.Q3
  have HB1 : Hid (X = (gnB P Q x && (gnB P Q y && gnB P Q z))) := hid (by rw [HB.out, hg]; rfl)
  rw [hg]
  clear hg g HB
  go_wp2_with fail
  refine (resMessage_any P Q G A B C x _ g1 (by omega) hQ).mono ?_
  rintro e w2 ⟨rfl, hU2⟩
  have HA2 := hid (HA1.out.up hU2)
  have HK2 := hid (HK1.out.up hU2)
  have HU2 := hid (HU1.out.trans hU2)
  clear hU2 c0 c1 c2 c3 c4 c5 e0 e1 e2 HA1 HK1
  obtain ⟨⟨c0, c1, c2⟩, c3, c4, c5⟩ := HA2.out
  obtain ⟨e0, e1, e2⟩ := HK2.out
  by_cases h1 : gnB P Q x = true
  case neg =>
    have h1' : gnB P Q x = false := by simpa using h1
    have hX : X = false := by rw [HB1.out, h1']; rfl
    subst hX
    rw [h1']
    clear h1 h1'
    go_wp2
    go_ret
    exact ⟨rfl, HU2.out⟩
  have HB3 : Hid (X = (gnB P Q y && gnB P Q z)) := hid (by rw [HB1.out, h1]; rfl)
  rw [h1]
  clear h1 HB1
  go_wp2_with fail
  refine (resMessage_any P Q G A B C y _ g1 (by omega) hQ).mono ?_
  rintro e w3 ⟨rfl, hU3⟩
  have HA3 := hid (HA2.out.up hU3)
  have HK3 := hid (HK2.out.up hU3)
  have HU3 := hid (HU2.out.trans hU3)
  clear hU3 c0 c1 c2 c3 c4 c5 e0 e1 e2 HA2 HK2
  obtain ⟨⟨c0, c1, c2⟩, c3, c4, c5⟩ := HA3.out
  obtain ⟨e0, e1, e2⟩ := HK3.out
  by_cases h2 : gnB P Q y = true
  case neg =>
    have h2' : gnB P Q y = false := by simpa using h2
    have hX : X = false := by rw [HB3.out, h2']; rfl
    subst hX
    rw [h2']
    clear h2 h2'
    go_wp2
    go_ret
    exact ⟨rfl, HU3.out⟩
  have HB4 : Hid (X = gnB P Q z) := hid (by rw [HB3.out, h2]; rfl)
  rw [h2]
  clear h2 HB3
  go_wp2_with fail
  refine (resMessage_any P Q G A B C z _ g1 (by omega) hQ).mono ?_
  rintro e w4 ⟨rfl, hU4⟩
  rw [← HB4.out]
  go_wp2
  go_ret
  exact ⟨rfl, HU3.out.trans hU4⟩
end Go.Proofs.YtdbhleinhpiohaaGreatDoor
namespace Go.Proofs.YtdbhleinhpiohaaGreatDoor
open Go.RowKit Go.Sp
set_option maxHeartbeats 2000000
set_option maxRecDepth 20000

theorem results_tmp4 {fn : Func} {t u v x : Tmp} (h : fn.results = #[.tmp t, .tmp u, .tmp v, .tmp x]) (tmps : Array Value) (P : Program) (w : World) :
    (results fn tmps).run P w = .ok (.tuple #[tmps.getD t undef, tmps.getD u undef, tmps.getD v undef, tmps.getD x undef]) w := by
  simp [results, h]

end Go.Proofs.YtdbhleinhpiohaaGreatDoor
