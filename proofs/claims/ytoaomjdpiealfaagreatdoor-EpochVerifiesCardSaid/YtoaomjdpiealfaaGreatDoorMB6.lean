/- Slices of numbers of any kind: read, owned, appended to. Over any program. Blocks that are known whole; rows of numbers. Over any program. Package digest and its reference: a rotation; the words of a block. Package digest: the words of a block. Package digest: a block mixed into the state. -/
import Derived.Test.YtoaomjdpiealfaaGreatDoorMB1
import Derived.Test.YtoaomjdpiealfaaGreatDoorMB5
import Derived.Test.YtoaomjdpiealfaaGreatDoorMB4
import Derived.Laws.AppendOwnNone
import Derived.Laws.OwnMore
import Derived.Laws.CopyOwn
import Derived.Laws.Tables
import Derived.Laws.Rows
import Derived.Deep.QuietTactic
import Derived.BigRegion
import Derived.Deep.WholeRow
import Derived.Great.BuildSlice
namespace Go.Sp
open Go.RowKit

theorem cell_in {w : World} {b o : Nat} {v : Value} (h : w.cell? ⟨b, o, none⟩ = some v) : b < w.heap.size := by
  unfold World.cell? at h
  split at h
  · rename_i h1; exact (Array.getElem?_eq_some_iff.1 h1).1
  · cases h

/-- The slice v holds just these numbers. -/
def SeqAt (k : IntKind) (w : World) (v : Value) (xs : List Int) : Prop :=
  ∃ a cap, v = .slice a xs.length cap ∧ xs.length ≤ cap ∧ cap ≤ 9223372036854775807 ∧ (a = none → cap = 0) ∧ (xs ≠ [] → ∃ b off, a = some ⟨b, off, none⟩ ∧ ∀ i, i < xs.length → w.cell? ⟨b, off + i, none⟩ = some (.int k (xs.getD i 0)))

/-- The slice v is the call's own, and holds just these numbers. -/
def OwnS (e : TypeId) (k : IntKind) (w : World) (base : Nat) (v : Value) (xs : List Int) : Prop := w.ownsRow base e 1 v xs.length (xs.map (Value.int k))

section
variable {k : IntKind} {e : TypeId} {w w' : World} {base : Nat} {v : Value} {xs ys : List Int}

theorem SeqAt.up (h : SeqAt k w v xs) (hU : Up w w') : SeqAt k w' v xs := by
  obtain ⟨a, cap, h2, hle, hmx, hn, h3⟩ := h
  refine ⟨a, cap, h2, hle, hmx, hn, fun hne => ?_⟩
  obtain ⟨b, off, ha, hc⟩ := h3 hne
  exact ⟨b, off, ha, fun i hi => by rw [hU.cell (cell_in (hc i hi))]; exact hc i hi⟩

theorem SeqAt.shape (h : SeqAt k w v xs) : ∃ a cap, v = .slice a xs.length cap ∧ xs.length ≤ cap ∧ cap ≤ 9223372036854775807 := by
  obtain ⟨a, cap, h2, h3, h4, _⟩ := h
  exact ⟨a, cap, h2, h3, h4⟩

theorem SeqAt.len (h : SeqAt k w v xs) : xs.length ≤ 9223372036854775807 := by
  obtain ⟨a, cap, h2, h3, h4, _⟩ := h
  omega

theorem SeqAt.cell (h : SeqAt k w v xs) {i : Nat} (hi : i < xs.length) : ∃ b off cap, v = .slice (some ⟨b, off, none⟩) xs.length cap ∧ w.cell? ⟨b, off + i, none⟩ = some (.int k (xs.getD i 0)) := by
  obtain ⟨a, cap, h2, _, _, _, h3⟩ := h
  obtain ⟨b, off, ha, hc⟩ := h3 (by rintro rfl; simp at hi)
  exact ⟨b, off, cap, by rw [h2, ha], hc i hi⟩

theorem seq_none : SeqAt k w (.slice none 0 0) [] := ⟨none, 0, rfl, Nat.le_refl _, by omega, fun _ => rfl, fun h => absurd rfl h⟩
theorem seq_zero (a : Addr) (c : Nat) (hc : c ≤ 9223372036854775807) : SeqAt k w (.slice (some a) 0 c) [] := ⟨some a, c, rfl, by simp, hc, (fun h => by cases h), fun h => absurd rfl h⟩

/-- A block that is known whole is read as a slice. -/
theorem seq_block {b : Nat} {cs : Array Value} {t : TypeId} {fr : Nat × Nat} (hb : w.heap[b]? = some (.cells cs t fr)) (xs : List Int) (lo n c : Nat) (hl : xs.length = n) (hnc : n ≤ c) (h63 : c ≤ 9223372036854775807) (hcs : ∀ i, i < n → cs[lo + i]? = some (.int k (xs.getD i 0))) :
    SeqAt k w (.slice (some ⟨b, lo, none⟩) n c) xs := by
  subst hl
  refine ⟨_, c, rfl, hnc, h63, (fun h => by cases h), fun _ => ⟨b, lo, rfl, fun i hi => ?_⟩⟩
  simp [World.cell?, hb]
  exact hcs i hi

theorem seq_new (w : World) (x : Int) (t : TypeId) : SeqAt k (w.alloc (.cells #[.int k x] t)) (.slice (some ⟨w.heap.size, 0, none⟩) 1 1) [x] :=
  seq_block (heap_alloc_new w _) [x] 0 1 1 rfl (by decide) (by decide) fun i hi => by
    obtain rfl : i = 0 := by omega
    rfl

/-- A part of a slice. -/
theorem SeqAt.sub {b off n cap lo hi c : Nat} (h : SeqAt k w (.slice (some ⟨b, off, none⟩) n cap) xs) (h1 : lo ≤ hi) (h2 : hi ≤ n) (h3 : hi - lo ≤ c) (h4 : c ≤ 9223372036854775807) : SeqAt k w (.slice (some ⟨b, off + lo, none⟩) (hi - lo) c) ((xs.drop lo).take (hi - lo)) := by
  obtain ⟨a, cap', hv, _, _, _, hc⟩ := h
  simp only [Value.slice.injEq] at hv
  obtain ⟨ha, hn, _⟩ := hv
  have hlen : ((xs.drop lo).take (hi - lo)).length = hi - lo := by simp; omega
  refine ⟨_, c, by rw [hlen], by omega, h4, (fun h => by cases h), fun hne => ⟨b, off + lo, rfl, fun i hi' => ?_⟩⟩
  have hi2 : lo + i < xs.length := by omega
  obtain ⟨b', off', ha', hc'⟩ := hc (by rintro rfl; simp at hi2)
  rw [← ha] at ha'
  simp at ha'
  obtain ⟨rfl, rfl⟩ := ha'
  have := hc' (lo + i) hi2
  rw [show off + (lo + i) = off + lo + i by omega] at this
  rw [this]
  have h5 : i < hi - lo := by omega
  simp [h5]

theorem SeqAt.front {a : Option Addr} {n cap m : Nat} (h : SeqAt k w (.slice a n cap) xs) (h2 : m ≤ n) : SeqAt k w (.slice a m cap) (xs.take m) := by
  obtain ⟨a', cap', hv, h3, h4, h5, hc⟩ := h
  simp only [Value.slice.injEq] at hv
  obtain ⟨rfl, hn, rfl⟩ := hv
  have hlen : (xs.take m).length = m := by simp; omega
  refine ⟨a, cap, by rw [hlen], by omega, h4, h5, fun hne => ?_⟩
  obtain ⟨b, off, ha, hcell⟩ := hc (by rintro rfl; simp at hne)
  refine ⟨b, off, ha, fun i hi => ?_⟩
  have hi2 : i < m := by omega
  rw [hcell i (by omega)]
  simp [hi2]

theorem SeqAt.back {b off n cap lo : Nat} (h : SeqAt k w (.slice (some ⟨b, off, none⟩) n cap) xs) (h2 : lo ≤ n) : SeqAt k w (.slice (some ⟨b, off + lo, none⟩) (n - lo) (cap - lo)) (xs.drop lo) := by
  obtain ⟨a', cap', hv, h3, h4, h5, hc⟩ := h
  simp only [Value.slice.injEq] at hv
  obtain ⟨rfl, hn, rfl⟩ := hv
  have hlen : (xs.drop lo).length = n - lo := by simp; omega
  refine ⟨_, cap - lo, by rw [hlen], by omega, by omega, (fun h => by cases h), fun hne => ?_⟩
  obtain ⟨b', off', ha, hcell⟩ := hc (by rintro rfl; simp at hne)
  simp at ha
  obtain ⟨rfl, rfl⟩ := ha
  refine ⟨b, off + lo, rfl, fun i hi => ?_⟩
  have := hcell (lo + i) (by omega)
  rw [show off + lo + i = off + (lo + i) by omega, this]
  simp

theorem own_none : OwnS e k w base (.slice none 0 0) [] := ⟨by simp, .inl ⟨rfl, rfl⟩⟩

theorem OwnS.seq (h : OwnS e k w base v xs) : SeqAt k w v xs := by
  rcases h.2 with ⟨hv, hn⟩ | ⟨g, cap, cur, rfl, hb, hg, hn, hm, hs, ht⟩
  · exact ⟨none, 0, by rw [hv, hn], by omega, by omega, fun _ => rfl, fun hne => absurd (List.length_eq_zero_iff.1 hn) hne⟩
  · refine ⟨_, cap, rfl, hn, by unfold maxLen at hm; omega, (fun h => by cases h), fun _ => ⟨g, 0, rfl, fun i hi => ?_⟩⟩
    rw [Nat.zero_add, World.ownsRow.cellAt h i (by omega)]
    simp [hi]

theorem OwnS.shape (h : OwnS e k w base v xs) : ∃ p cap, v = .slice p xs.length cap ∧ xs.length ≤ cap ∧ cap ≤ 9223372036854775807 := h.seq.shape

theorem ownsRow_later {size n : Nat} {us : List Value} (h : w.ownsRow base e size v n us) (hU : Up w w') : w'.ownsRow base e size v n us := by
  refine ⟨h.1, ?_⟩
  rcases h.2 with hn | ⟨g, cap, cur, rfl, hb, hgg, rest⟩
  · exact .inl hn
  · refine .inr ⟨g, cap, cur, rfl, hb, ?_, rest⟩
    rw [hU.block (Array.getElem?_eq_some_iff.1 hgg).1]
    exact hgg

theorem OwnS.up (h : OwnS e k w base v xs) (hU : Up w w') : OwnS e k w' base v xs := ownsRow_later h hU

theorem OwnS.mono {base' : Nat} (h : OwnS e k w base v xs) (hb : base' ≤ base) : OwnS e k w base' v xs := by
  refine ⟨h.1, ?_⟩
  rcases h.2 with hn | ⟨g, cap, cur, rfl, hb2, rest⟩
  · exact .inl hn
  · exact .inr ⟨g, cap, cur, rfl, by omega, rest⟩

theorem OwnS.block (h : OwnS e k w base v xs) (j : Nat) (hj : v.ownBlock = some j) : base ≤ j := by
  rcases h.2 with ⟨hv, _⟩ | ⟨g, cap, cur, rfl, hb, _⟩
  · rw [hv] at hj; cases hj
  · simp [Value.ownBlock] at hj; omega

theorem OwnS.grown {row : Option Nat} (h : OwnS e k w base v xs) (hg : w.grownBy w' row) (hne : v.ownBlock = none ∨ v.ownBlock ≠ row) : OwnS e k w' base v xs :=
  World.ownsRow.kept h hg hne

/-- What was there when the call began is there behind an append to the call's own. -/
theorem Up.own {w0 : World} (hU : Up w0 w) (h : OwnS e k w base v xs) (hg : w.grownBy w' v.ownBlock) (hb : w0.heap.size ≤ base) : Up w0 w' :=
  Below.grown hU hg hU.size fun j hj => Nat.le_trans hb (h.block j hj)

theorem below_own (h : OwnS e k w base v xs) (hg : w.grownBy w' v.ownBlock) (hb : base ≤ w.heap.size) : Below base w w' :=
  Below.grown (Below.refl base w) hg hb fun j hj => h.block j hj

theorem SeqAt.below {B : Nat} (h : SeqAt k w v xs) (hb : Below B w w') (ha : ∀ b off n c, v = .slice (some ⟨b, off, none⟩) n c → b < B) : SeqAt k w' v xs := by
  obtain ⟨a, cap, h2, hle, hmx, hn, h3⟩ := h
  refine ⟨a, cap, h2, hle, hmx, hn, fun hne => ?_⟩
  obtain ⟨b, off, rfl, hc⟩ := h3 hne
  exact ⟨b, off, rfl, fun i hi => by rw [hb.cell (show (⟨b, off + i, none⟩ : Addr).block < B from ha _ _ _ _ h2)]; exact hc i hi⟩

theorem SeqAt.inside {b off n c : Nat} (h : SeqAt k w (.slice (some ⟨b, off, none⟩) n c) xs) (hne : xs ≠ []) : b < w.heap.size := by
  obtain ⟨a, cap, h2, _, _, _, h3⟩ := h
  obtain ⟨b', off', ha, hc⟩ := h3 hne
  simp only [Value.slice.injEq] at h2
  rw [ha] at h2
  simp at h2
  have := hc 0 (List.length_pos_iff.2 hne)
  rw [← h2.1.1] at this
  exact cell_in this

end

/-- append(v, u...) onto the call's own: at the operation of a walk. -/
theorem wp_app {P : Program} {e t : TypeId} {k : IntKind} {bytes : Nat} (hI : (P.info? e).map (fun i => (i.zero, i.size, i.bytes)) = some (some (.int k 0), 1, bytes)) (ht : P.underlying t = some (.slice e)) (hby : bytes ≤ 8)
    {ops : Array Oper} {rest : List Oper} {o : Oper} {a : Act} {w : World} {Q : Exit → Act → World → Prop} (hgd : o.guard = none) (s x : Operand)
    (ho : o.op = .call { callee := .builtin .append, args := #[s, x], argTypes := #[t, t] })
    (base : Nat) {v u : Value} {xs ys : List Int} (hs : a.eval s = v) (hx : a.eval x = u) (hown : OwnS e k w base v xs) (hsrc : SeqAt k w u ys) (hroom : xs.length + ys.length ≤ 17592186044416) (hbase : base ≤ w.heap.size)
    (h : ∀ v' w', OwnS e k w' base v' (xs ++ ys) → w.grownBy w' v.ownBlock → wpList P ops Q rest (a.put o.dst v') w') : wpList P ops Q (o :: rest) a w := by
  obtain ⟨i0, hi, hz0, hz1, hz2⟩ := info_parts hI
  obtain ⟨ad, cap, rfl, _, _, hcap, hc⟩ := hsrc
  have hown' : w.ownsRow base e 1 v xs.length (xs.map (Value.int k)) := hown
  by_cases hne : ys = []
  · subst hne
    cases ad with
    | none =>
      have hcap := hcap rfl
      subst hcap
      refine wpList_append_own_none hgd s x t ho base e i0 1 ht hi v xs.length _ hs hown' hx ?_
      have := h v w (by rw [List.append_nil]; exact hown) (World.grownBy.refl _ _)
      exact this
    | some ad =>
      refine wpList_append_own w hgd s x t ho base e i0 (.int k 0) 1 bytes ht hi hz0 hz1 hz2 rfl (by decide) v xs.length _ hs hown' ad 0 cap [] hx rfl (fun j u hj => by simp at hj) (fun u hu => by cases hu) (by unfold maxLen; omega) (by
        have := Nat.mul_le_mul (show xs.length + 0 ≤ 17592186044416 by simp at hroom; omega) hby
        omega) hbase fun v' w' h1 h2 _ => h v' w' (by
          unfold OwnS
          rw [List.append_nil]
          simpa using h1) h2
  · obtain ⟨b, off, rfl, hcell⟩ := hc hne
    refine wpList_append_own w hgd s x t ho base e i0 (.int k 0) 1 bytes ht hi hz0 hz1 hz2 rfl (by decide) v xs.length _ hs hown' ⟨b, off, none⟩ ys.length cap (ys.map (Value.int k)) hx (by simp) (fun j u hj => by
        simp only [List.getElem?_map, Option.map_eq_some_iff] at hj
        obtain ⟨y, hy, rfl⟩ := hj
        have hj2 : j < ys.length := (List.getElem?_eq_some_iff.1 hy).1
        have := hcell j hj2
        rw [Addr.add_lit, this]
        simp [hy]) (ints_oneCell _ _) (by unfold maxLen; omega) (by
        have := Nat.mul_le_mul hroom hby
        omega) hbase fun v' w' h1 h2 _ => h v' w' (by
          unfold OwnS
          rw [List.length_append, List.map_append]
          exact h1) h2

end Go.Sp
namespace Go.Sp
open Go.RowKit

/-- A block that is known whole. -/
def Blk (w : World) (g : Nat) (t : TypeId) (cs : Array Value) : Prop := w.heap[g]? = some (.cells cs t (0, 0))

section
variable {w w' : World} {g : Nat} {t : TypeId} {cs : Array Value}
theorem Blk.lt (h : Blk w g t cs) : g < w.heap.size := (Array.getElem?_eq_some_iff.1 h).1
theorem Blk.read (h : Blk w g t cs) (i : Nat) : w.cell? ⟨g, i, none⟩ = cs[i]? := by
  have h1 : w.heap[g]? = some (.cells cs t (0, 0)) := h
  simp [World.cell?, h1]
theorem Blk.val (h : Blk w g t cs) {i : Nat} {v : Value} (hv : cs[i]? = some v) : w.cell? ⟨g, i, none⟩ = some v := by rw [h.read i]; exact hv
theorem Blk.thawed (h : Blk w g t cs) (i : Nat) : w.frozen? ⟨g, i, none⟩ = false := by
  have h1 : w.heap[g]? = some (.cells cs t (0, 0)) := h
  simp [World.frozen?, h1]
theorem Blk.up (h : Blk w g t cs) (hU : Up w w') : Blk w' g t cs := (hU.block h.lt).trans h
theorem Blk.alloc (h : Blk w g t cs) (o : Obj) : Blk (w.alloc o) g t cs := h.up ((Up.refl w).alloc o)
theorem Blk.new {w : World} {g : Nat} {t : TypeId} {cs cs' : Array Value} (hg : w.heap.size = g) (hc : cs = cs') : Blk (w.alloc (.cells cs t)) g t cs' := by
  subst hg hc
  exact heap_alloc_new w _
theorem Blk.grown {row : Option Nat} (h : Blk w g t cs) (hg : w.grownBy w' row) (hr : some g ≠ row) : Blk w' g t cs := (hg.block g h.lt hr).trans h
theorem Blk.below {B : Nat} (h : Blk w g t cs) (hb : Below B w w') (hg : g < B) : Blk w' g t cs := (hb.block g hg).trans h
theorem Blk.apart (h : Blk w g t cs) {a : Addr} (ha : g ≠ a.block) (v : Value) : Blk (w.setCell a v) g t cs := (Below.heap_setCell w a v g ha).trans h
theorem Blk.wrote (h : Blk w g t cs) (i : Nat) (v : Value) : Blk (w.setCell ⟨g, i, none⟩ v) g t (cs.setIfInBounds i v) := by
  have h1 : w.heap[g]? = some (.cells cs t (0, 0)) := h
  unfold Blk
  simp [World.setCell, Array.getElem?_modify, h1]
theorem Blk.row (h : Blk w g t cs) (cs' : Array Value) : Blk (w.setRow g cs') g t cs' := setRow_heap w g cs cs' t (0, 0) h
theorem Blk.rowApart (h : Blk w g t cs) {k : Nat} (hk : g ≠ k) (cs' : Array Value) : Blk (w.setRow k cs') g t cs := (setRow_other w k g cs' hk).trans h
theorem Up.setRow {w0 : World} (h : Up w0 w) (hg : w0.heap.size ≤ g) (cs' : Array Value) : Up w0 (w.setRow g cs') := below_setRow h hg cs'
end

/-- A row of numbers. -/
def arrK (k : IntKind) (f : Nat → Int) (n : Nat) : Array Value := (Array.range n).map fun j => .int k (f j)

section
variable {k : IntKind} {f g : Nat → Int} {n : Nat}
theorem arrK_size : (arrK k f n).size = n := by simp [arrK]
theorem arrK_get {j : Nat} (hj : j < n) : (arrK k f n)[j]? = some (.int k (f j)) := by simp [arrK, hj]
theorem arrK_one : (arrK k f n).all (·.oneCell') = true := by
  rw [Array.all_eq_true]
  intro i h
  simp [arrK, Value.oneCell']
theorem arrK_congr (h : ∀ j, j < n → f j = g j) : arrK k f n = arrK k g n := by
  apply Array.ext
  · simp [arrK]
  · intro i h1 h2
    simp [arrK] at h1 ⊢
    exact h i h1
theorem arrK_set {i : Nat} (x : Int) : (arrK k f n).setIfInBounds i (.int k x) = arrK k (fun j => if j = i then x else f j) n := by
  apply Array.ext_getElem?
  intro j
  rw [Array.getElem?_setIfInBounds, arrK_size]
  by_cases hj : j < n
  · rw [arrK_get hj, arrK_get hj]
    by_cases h : i = j
    · subst h
      simp [hj]
    · have h2 : ¬ j = i := fun e => h e.symm
      simp [h, h2]
  · have h1 : (arrK k f n)[j]? = none := by simp [arrK, hj]
    have h2 : (arrK k (fun j => if j = i then x else f j) n)[j]? = none := by simp [arrK, hj]
    rw [h1, h2]
    split
    · split
      · omega
      · rfl
    · rfl
end

/-- Filled as far as i. -/
def pfill (f : Nat → Int) (i : Nat) : Nat → Int := fun j => if j < i then f j else 0
theorem pfill_zero (k : IntKind) (f : Nat → Int) (n : Nat) : arrK k (fun _ => 0) n = arrK k (pfill f 0) n := arrK_congr fun j _ => by simp [pfill]
theorem pfill_all (k : IntKind) (f : Nat → Int) (n : Nat) : arrK k (pfill f n) n = arrK k f n := arrK_congr fun j hj => by simp [pfill, hj]
theorem pfill_put (k : IntKind) (f : Nat → Int) (i n : Nat) : (arrK k (pfill f i) n).setIfInBounds i (.int k (f i)) = arrK k (pfill f (i + 1)) n := by
  rw [arrK_set]
  refine arrK_congr fun t _ => ?_
  unfold pfill
  by_cases h : t = i
  · subst h
    simp
  · have e1 : (t < i + 1) ↔ (t < i) := by omega
    simp [h, e1]
theorem pfill_at {k : IntKind} {f : Nat → Int} {i n : Nat} (hi : i < n) : (arrK k (pfill f i) n)[i]? = some (.int k 0) := by
  rw [arrK_get hi, pfill, if_neg (by omega)]

/-- How long a slice is. -/
def lenOf : Value → Nat
  | .slice _ n _ => n
  | _ => 0

@[simp] theorem lenOf_slice (a : Option Addr) (n c : Nat) : lenOf (.slice a n c) = n := rfl
theorem Blk.own {w : World} {g base : Nat} {e : TypeId} {k : IntKind} {f : Nat → Int} {n : Nat} (h : Blk w g e (arrK k f n)) (hb : base ≤ g) (hn : n ≤ 9223372036854775807) : OwnS e k w base (.slice (some ⟨g, 0, none⟩) n n) ((List.range n).map f) := by
  refine ⟨by simp, .inr ⟨g, n, _, by simp, hb, h, by simp, by unfold maxLen; omega, by simp [arrK], ?_⟩⟩
  rw [List.take_of_length_le (by simp [arrK])]
  simp [arrK]

theorem own_empty {w : World} {g base : Nat} {e : TypeId} {k : IntKind} (h : Blk w g e #[]) (hb : base ≤ g) : OwnS e k w base (.slice (some ⟨g, 0, none⟩) 0 0) [] :=
  ⟨by simp, .inr ⟨g, 0, _, rfl, hb, h, Nat.le_refl _, Nat.zero_le _, rfl, rfl⟩⟩

/-- A block of numbers read as a slice. -/
theorem Blk.seq {w : World} {b : Nat} {t : TypeId} {k : IntKind} {f : Nat → Int} {m : Nat} (h : Blk w b t (arrK k f m)) (lo n c : Nat) (h1 : lo + n ≤ m) (hnc : n ≤ c) (h63 : c ≤ 9223372036854775807) :
    SeqAt k w (.slice (some ⟨b, lo, none⟩) n c) ((List.range n).map fun i => f (lo + i)) :=
  seq_block h _ lo n c (by simp) hnc h63 fun i hi => by
    rw [arrK_get (by omega)]
    simp [hi]
end Go.Sp
namespace Go.Proofs.YtoaomjdpiealfaaGreatDoor
open Go.RowKit Go.Sp
set_option maxHeartbeats 1000000
set_option maxRecDepth 20000

theorem rotl_2 (x : Int) (w : World) :
    Calls Tryz.prog 222 #[.int .u32 x, .int .i64 (-2)] w fun e w' => e = .returned (.int .u32 (rotr x 2)) ∧ w = w' := by
  have k1 : bits BinOp.and IntKind.u64 (IntKind.u64.wrap (-2)) 31 = 30 := by kernel_rfl
  go_enter Tryz.func222, Tryz.ntmps222
  go_wp2
  go_ret
  exact ⟨by rw [rotr, bits_or_comm]; rfl, rfl⟩

theorem right_2 (x : Int) (w : World) :
    Calls Tryz.prog 197 #[.int .u32 x, .int .i64 2] w fun e w' => e = .returned (.int .u32 (rotr x 2)) ∧ w = w' := by
  have hR := hid (rotl_2 x w)
  generalize rotr x 2 = y at *
  go_enter Tryz.func197, Tryz.ntmps197
  go_wp2_with fail
  refine hR.out.mono ?_
  rintro e w' ⟨rfl, rfl⟩
  go_wp2
  go_ret
  exact ⟨rfl, rfl⟩

theorem rright_2 (x : Int) (w : World) :
    Calls Tryz.prog 207 #[.int .u32 x, .int .i64 2] w fun e w' => e = .returned (.int .u32 (rotr x 2)) ∧ Up w w' := by
  go_enter Tryz.func207, Tryz.ntmps207
  go_wp2
  go_quiet (fail)
  go_wp2
  go_ret
  exact ⟨rfl, (Up.refl w).drewN _⟩

theorem rotl_6 (x : Int) (w : World) :
    Calls Tryz.prog 222 #[.int .u32 x, .int .i64 (-6)] w fun e w' => e = .returned (.int .u32 (rotr x 6)) ∧ w = w' := by
  have k1 : bits BinOp.and IntKind.u64 (IntKind.u64.wrap (-6)) 31 = 26 := by kernel_rfl
  go_enter Tryz.func222, Tryz.ntmps222
  go_wp2
  go_ret
  exact ⟨by rw [rotr, bits_or_comm]; rfl, rfl⟩

theorem right_6 (x : Int) (w : World) :
    Calls Tryz.prog 197 #[.int .u32 x, .int .i64 6] w fun e w' => e = .returned (.int .u32 (rotr x 6)) ∧ w = w' := by
  have hR := hid (rotl_6 x w)
  generalize rotr x 6 = y at *
  go_enter Tryz.func197, Tryz.ntmps197
  go_wp2_with fail
  refine hR.out.mono ?_
  rintro e w' ⟨rfl, rfl⟩
  go_wp2
  go_ret
  exact ⟨rfl, rfl⟩

theorem rright_6 (x : Int) (w : World) :
    Calls Tryz.prog 207 #[.int .u32 x, .int .i64 6] w fun e w' => e = .returned (.int .u32 (rotr x 6)) ∧ Up w w' := by
  go_enter Tryz.func207, Tryz.ntmps207
  go_wp2
  go_quiet (fail)
  go_wp2
  go_ret
  exact ⟨rfl, (Up.refl w).drewN _⟩

theorem rotl_7 (x : Int) (w : World) :
    Calls Tryz.prog 222 #[.int .u32 x, .int .i64 (-7)] w fun e w' => e = .returned (.int .u32 (rotr x 7)) ∧ w = w' := by
  have k1 : bits BinOp.and IntKind.u64 (IntKind.u64.wrap (-7)) 31 = 25 := by kernel_rfl
  go_enter Tryz.func222, Tryz.ntmps222
  go_wp2
  go_ret
  exact ⟨by rw [rotr, bits_or_comm]; rfl, rfl⟩

theorem right_7 (x : Int) (w : World) :
    Calls Tryz.prog 197 #[.int .u32 x, .int .i64 7] w fun e w' => e = .returned (.int .u32 (rotr x 7)) ∧ w = w' := by
  have hR := hid (rotl_7 x w)
  generalize rotr x 7 = y at *
  go_enter Tryz.func197, Tryz.ntmps197
  go_wp2_with fail
  refine hR.out.mono ?_
  rintro e w' ⟨rfl, rfl⟩
  go_wp2
  go_ret
  exact ⟨rfl, rfl⟩

theorem rright_7 (x : Int) (w : World) :
    Calls Tryz.prog 207 #[.int .u32 x, .int .i64 7] w fun e w' => e = .returned (.int .u32 (rotr x 7)) ∧ Up w w' := by
  go_enter Tryz.func207, Tryz.ntmps207
  go_wp2
  go_quiet (fail)
  go_wp2
  go_ret
  exact ⟨rfl, (Up.refl w).drewN _⟩

theorem rotl_11 (x : Int) (w : World) :
    Calls Tryz.prog 222 #[.int .u32 x, .int .i64 (-11)] w fun e w' => e = .returned (.int .u32 (rotr x 11)) ∧ w = w' := by
  have k1 : bits BinOp.and IntKind.u64 (IntKind.u64.wrap (-11)) 31 = 21 := by kernel_rfl
  go_enter Tryz.func222, Tryz.ntmps222
  go_wp2
  go_ret
  exact ⟨by rw [rotr, bits_or_comm]; rfl, rfl⟩

theorem right_11 (x : Int) (w : World) :
    Calls Tryz.prog 197 #[.int .u32 x, .int .i64 11] w fun e w' => e = .returned (.int .u32 (rotr x 11)) ∧ w = w' := by
  have hR := hid (rotl_11 x w)
  generalize rotr x 11 = y at *
  go_enter Tryz.func197, Tryz.ntmps197
  go_wp2_with fail
  refine hR.out.mono ?_
  rintro e w' ⟨rfl, rfl⟩
  go_wp2
  go_ret
  exact ⟨rfl, rfl⟩

theorem rright_11 (x : Int) (w : World) :
    Calls Tryz.prog 207 #[.int .u32 x, .int .i64 11] w fun e w' => e = .returned (.int .u32 (rotr x 11)) ∧ Up w w' := by
  go_enter Tryz.func207, Tryz.ntmps207
  go_wp2
  go_quiet (fail)
  go_wp2
  go_ret
  exact ⟨rfl, (Up.refl w).drewN _⟩

theorem rotl_13 (x : Int) (w : World) :
    Calls Tryz.prog 222 #[.int .u32 x, .int .i64 (-13)] w fun e w' => e = .returned (.int .u32 (rotr x 13)) ∧ w = w' := by
  have k1 : bits BinOp.and IntKind.u64 (IntKind.u64.wrap (-13)) 31 = 19 := by kernel_rfl
  go_enter Tryz.func222, Tryz.ntmps222
  go_wp2
  go_ret
  exact ⟨by rw [rotr, bits_or_comm]; rfl, rfl⟩

theorem right_13 (x : Int) (w : World) :
    Calls Tryz.prog 197 #[.int .u32 x, .int .i64 13] w fun e w' => e = .returned (.int .u32 (rotr x 13)) ∧ w = w' := by
  have hR := hid (rotl_13 x w)
  generalize rotr x 13 = y at *
  go_enter Tryz.func197, Tryz.ntmps197
  go_wp2_with fail
  refine hR.out.mono ?_
  rintro e w' ⟨rfl, rfl⟩
  go_wp2
  go_ret
  exact ⟨rfl, rfl⟩

theorem rright_13 (x : Int) (w : World) :
    Calls Tryz.prog 207 #[.int .u32 x, .int .i64 13] w fun e w' => e = .returned (.int .u32 (rotr x 13)) ∧ Up w w' := by
  go_enter Tryz.func207, Tryz.ntmps207
  go_wp2
  go_quiet (fail)
  go_wp2
  go_ret
  exact ⟨rfl, (Up.refl w).drewN _⟩

theorem rotl_17 (x : Int) (w : World) :
    Calls Tryz.prog 222 #[.int .u32 x, .int .i64 (-17)] w fun e w' => e = .returned (.int .u32 (rotr x 17)) ∧ w = w' := by
  have k1 : bits BinOp.and IntKind.u64 (IntKind.u64.wrap (-17)) 31 = 15 := by kernel_rfl
  go_enter Tryz.func222, Tryz.ntmps222
  go_wp2
  go_ret
  exact ⟨by rw [rotr, bits_or_comm]; rfl, rfl⟩

theorem right_17 (x : Int) (w : World) :
    Calls Tryz.prog 197 #[.int .u32 x, .int .i64 17] w fun e w' => e = .returned (.int .u32 (rotr x 17)) ∧ w = w' := by
  have hR := hid (rotl_17 x w)
  generalize rotr x 17 = y at *
  go_enter Tryz.func197, Tryz.ntmps197
  go_wp2_with fail
  refine hR.out.mono ?_
  rintro e w' ⟨rfl, rfl⟩
  go_wp2
  go_ret
  exact ⟨rfl, rfl⟩

theorem rright_17 (x : Int) (w : World) :
    Calls Tryz.prog 207 #[.int .u32 x, .int .i64 17] w fun e w' => e = .returned (.int .u32 (rotr x 17)) ∧ Up w w' := by
  go_enter Tryz.func207, Tryz.ntmps207
  go_wp2
  go_quiet (fail)
  go_wp2
  go_ret
  exact ⟨rfl, (Up.refl w).drewN _⟩

theorem rotl_18 (x : Int) (w : World) :
    Calls Tryz.prog 222 #[.int .u32 x, .int .i64 (-18)] w fun e w' => e = .returned (.int .u32 (rotr x 18)) ∧ w = w' := by
  have k1 : bits BinOp.and IntKind.u64 (IntKind.u64.wrap (-18)) 31 = 14 := by kernel_rfl
  go_enter Tryz.func222, Tryz.ntmps222
  go_wp2
  go_ret
  exact ⟨by rw [rotr, bits_or_comm]; rfl, rfl⟩

theorem right_18 (x : Int) (w : World) :
    Calls Tryz.prog 197 #[.int .u32 x, .int .i64 18] w fun e w' => e = .returned (.int .u32 (rotr x 18)) ∧ w = w' := by
  have hR := hid (rotl_18 x w)
  generalize rotr x 18 = y at *
  go_enter Tryz.func197, Tryz.ntmps197
  go_wp2_with fail
  refine hR.out.mono ?_
  rintro e w' ⟨rfl, rfl⟩
  go_wp2
  go_ret
  exact ⟨rfl, rfl⟩

theorem rright_18 (x : Int) (w : World) :
    Calls Tryz.prog 207 #[.int .u32 x, .int .i64 18] w fun e w' => e = .returned (.int .u32 (rotr x 18)) ∧ Up w w' := by
  go_enter Tryz.func207, Tryz.ntmps207
  go_wp2
  go_quiet (fail)
  go_wp2
  go_ret
  exact ⟨rfl, (Up.refl w).drewN _⟩

theorem rotl_19 (x : Int) (w : World) :
    Calls Tryz.prog 222 #[.int .u32 x, .int .i64 (-19)] w fun e w' => e = .returned (.int .u32 (rotr x 19)) ∧ w = w' := by
  have k1 : bits BinOp.and IntKind.u64 (IntKind.u64.wrap (-19)) 31 = 13 := by kernel_rfl
  go_enter Tryz.func222, Tryz.ntmps222
  go_wp2
  go_ret
  exact ⟨by rw [rotr, bits_or_comm]; rfl, rfl⟩

theorem right_19 (x : Int) (w : World) :
    Calls Tryz.prog 197 #[.int .u32 x, .int .i64 19] w fun e w' => e = .returned (.int .u32 (rotr x 19)) ∧ w = w' := by
  have hR := hid (rotl_19 x w)
  generalize rotr x 19 = y at *
  go_enter Tryz.func197, Tryz.ntmps197
  go_wp2_with fail
  refine hR.out.mono ?_
  rintro e w' ⟨rfl, rfl⟩
  go_wp2
  go_ret
  exact ⟨rfl, rfl⟩

theorem rright_19 (x : Int) (w : World) :
    Calls Tryz.prog 207 #[.int .u32 x, .int .i64 19] w fun e w' => e = .returned (.int .u32 (rotr x 19)) ∧ Up w w' := by
  go_enter Tryz.func207, Tryz.ntmps207
  go_wp2
  go_quiet (fail)
  go_wp2
  go_ret
  exact ⟨rfl, (Up.refl w).drewN _⟩

theorem rotl_22 (x : Int) (w : World) :
    Calls Tryz.prog 222 #[.int .u32 x, .int .i64 (-22)] w fun e w' => e = .returned (.int .u32 (rotr x 22)) ∧ w = w' := by
  have k1 : bits BinOp.and IntKind.u64 (IntKind.u64.wrap (-22)) 31 = 10 := by kernel_rfl
  go_enter Tryz.func222, Tryz.ntmps222
  go_wp2
  go_ret
  exact ⟨by rw [rotr, bits_or_comm]; rfl, rfl⟩

theorem right_22 (x : Int) (w : World) :
    Calls Tryz.prog 197 #[.int .u32 x, .int .i64 22] w fun e w' => e = .returned (.int .u32 (rotr x 22)) ∧ w = w' := by
  have hR := hid (rotl_22 x w)
  generalize rotr x 22 = y at *
  go_enter Tryz.func197, Tryz.ntmps197
  go_wp2_with fail
  refine hR.out.mono ?_
  rintro e w' ⟨rfl, rfl⟩
  go_wp2
  go_ret
  exact ⟨rfl, rfl⟩

theorem rright_22 (x : Int) (w : World) :
    Calls Tryz.prog 207 #[.int .u32 x, .int .i64 22] w fun e w' => e = .returned (.int .u32 (rotr x 22)) ∧ Up w w' := by
  go_enter Tryz.func207, Tryz.ntmps207
  go_wp2
  go_quiet (fail)
  go_wp2
  go_ret
  exact ⟨rfl, (Up.refl w).drewN _⟩

theorem rotl_25 (x : Int) (w : World) :
    Calls Tryz.prog 222 #[.int .u32 x, .int .i64 (-25)] w fun e w' => e = .returned (.int .u32 (rotr x 25)) ∧ w = w' := by
  have k1 : bits BinOp.and IntKind.u64 (IntKind.u64.wrap (-25)) 31 = 7 := by kernel_rfl
  go_enter Tryz.func222, Tryz.ntmps222
  go_wp2
  go_ret
  exact ⟨by rw [rotr, bits_or_comm]; rfl, rfl⟩

theorem right_25 (x : Int) (w : World) :
    Calls Tryz.prog 197 #[.int .u32 x, .int .i64 25] w fun e w' => e = .returned (.int .u32 (rotr x 25)) ∧ w = w' := by
  have hR := hid (rotl_25 x w)
  generalize rotr x 25 = y at *
  go_enter Tryz.func197, Tryz.ntmps197
  go_wp2_with fail
  refine hR.out.mono ?_
  rintro e w' ⟨rfl, rfl⟩
  go_wp2
  go_ret
  exact ⟨rfl, rfl⟩

theorem rright_25 (x : Int) (w : World) :
    Calls Tryz.prog 207 #[.int .u32 x, .int .i64 25] w fun e w' => e = .returned (.int .u32 (rotr x 25)) ∧ Up w w' := by
  go_enter Tryz.func207, Tryz.ntmps207
  go_wp2
  go_quiet (fail)
  go_wp2
  go_ret
  exact ⟨rfl, (Up.refl w).drewN _⟩
end Go.Proofs.YtoaomjdpiealfaaGreatDoor
namespace Go.Proofs.YtoaomjdpiealfaaGreatDoor
open Go.RowKit Go.Sp
set_option maxHeartbeats 2000000
set_option maxRecDepth 20000

/-- The first j bytes of the i-th word. -/
def wordTo (b : Nat → Int) (i : Nat) : Nat → Int
  | 0 => 0
  | j + 1 => wordTo b i j * 256 + b (4 * i + j)

theorem wordTo_four (b : Nat → Int) (i : Nat) : wordTo b i 4 = wordB b i := by simp [wordTo, wordB]

theorem wordTo_range {b : Nat → Int} (h : Byt b) (i : Nat) : ∀ j, 0 ≤ wordTo b i j ∧ wordTo b i j < 256 ^ j
  | 0 => by simp [wordTo]
  | j + 1 => by
    have ih := wordTo_range h i j
    have hb := h (4 * i + j)
    have e : (256 : Int) ^ (j + 1) = 256 ^ j * 256 := Int.pow_succ _ _
    rw [wordTo, e]
    omega

theorem or_byte (x c : Int) (h0 : 0 ≤ x) (h1 : x < 16777216) (h2 : 0 ≤ c) (h3 : c ≤ 255) : bits .or .u32 (x * 256) c = x * 256 + c := by
  have := bits_join .u32 32 (by decide) (fun n a b => by rw [IntKind.wrap_u32]; omega) 8 (x := x * 256) (y := c) (by omega) (by omega) (by omega) (by omega) (by omega) (by omega)
  exact this

/-- The array of the words while it is filled: i words, and j bytes of the next one. -/
def wFill (b : Nat → Int) (i j : Nat) : Nat → Int := fun t => if t < i then wAt b t else if t = i then wordTo b i j else 0

def wPart (b : Nat → Int) (n : Nat) : Nat → Int := fun t => if t < n then wAt b t else 0

theorem zero64 : #[.int .u32 0, .int .u32 0, .int .u32 0, .int .u32 0, .int .u32 0, .int .u32 0, .int .u32 0, .int .u32 0, .int .u32 0, .int .u32 0, .int .u32 0, .int .u32 0, .int .u32 0, .int .u32 0, .int .u32 0, .int .u32 0,
    .int .u32 0, .int .u32 0, .int .u32 0, .int .u32 0, .int .u32 0, .int .u32 0, .int .u32 0, .int .u32 0, .int .u32 0, .int .u32 0, .int .u32 0, .int .u32 0, .int .u32 0, .int .u32 0, .int .u32 0, .int .u32 0,
    .int .u32 0, .int .u32 0, .int .u32 0, .int .u32 0, .int .u32 0, .int .u32 0, .int .u32 0, .int .u32 0, .int .u32 0, .int .u32 0, .int .u32 0, .int .u32 0, .int .u32 0, .int .u32 0, .int .u32 0, .int .u32 0,
    .int .u32 0, .int .u32 0, .int .u32 0, .int .u32 0, .int .u32 0, .int .u32 0, .int .u32 0, .int .u32 0, .int .u32 0, .int .u32 0, .int .u32 0, .int .u32 0, .int .u32 0, .int .u32 0, .int .u32 0, .int .u32 0] = arrK .u32 (fun _ => 0) 64 := by kernel_rfl

theorem wFill_zero (b : Nat → Int) (i : Nat) : arrK .u32 (wPart b i) 64 = arrK .u32 (wFill b i 0) 64 := arrK_congr fun t _ => by
  unfold wPart wFill wordTo
  split
  · rfl
  · split <;> rfl
theorem wFill_four (b : Nat → Int) {i : Nat} (hi : i < 16) : arrK .u32 (wFill b i 4) 64 = arrK .u32 (wPart b (i + 1)) 64 := arrK_congr fun t _ => by
  unfold wPart wFill
  by_cases h : t < i
  · rw [if_pos h, if_pos (by omega)]
  · rw [if_neg h]
    by_cases h2 : t = i
    · rw [if_pos h2, if_pos (by omega), wordTo_four, h2, wAt_low hi]
    · rw [if_neg h2, if_neg (by omega)]
theorem wFill_step (b : Nat → Int) (i j : Nat) : (arrK .u32 (wFill b i j) 64).setIfInBounds i (.int .u32 (wordTo b i j * 256 + b (4 * i + j))) = arrK .u32 (wFill b i (j + 1)) 64 := by
  rw [arrK_set]
  refine arrK_congr fun t _ => ?_
  unfold wFill
  by_cases h : t = i
  · subst h
    simp [wordTo]
  · simp [h]
theorem wPart_step (b : Nat → Int) (i : Nat) : (arrK .u32 (wPart b i) 64).setIfInBounds i (.int .u32 (wAt b i)) = arrK .u32 (wPart b (i + 1)) 64 := by
  rw [arrK_set]
  refine arrK_congr fun t _ => ?_
  unfold wPart
  by_cases h : t = i
  · subst h
    simp
  · have e1 : (t < i + 1) ↔ (t < i) := by omega
    simp [h, e1]
theorem wPart_all (b : Nat → Int) : arrK .u32 (wPart b 64) 64 = arrK .u32 (wAt b) 64 := arrK_congr fun t ht => by
  unfold wPart
  rw [if_pos ht]
theorem wPart_none (b : Nat → Int) : arrK .u32 (fun _ => 0) 64 = arrK .u32 (wPart b 0) 64 := arrK_congr fun t _ => by
  unfold wPart
  rw [if_neg (by omega)]
theorem wPart_at (b : Nat → Int) {i t : Nat} (h : t < i) (h2 : t < 64) : (arrK .u32 (wPart b i) 64)[t]? = some (.int .u32 (wAt b t)) := by
  rw [arrK_get h2, wPart, if_pos h]
theorem wPart_hole (b : Nat → Int) {i : Nat} (h2 : i < 64) : (arrK .u32 (wPart b i) 64)[i]? = some (.int .u32 0) := by
  rw [arrK_get h2, wPart, if_neg (by omega)]
theorem wFill_at (b : Nat → Int) {i j : Nat} (h2 : i < 64) : (arrK .u32 (wFill b i j) 64)[i]? = some (.int .u32 (wordTo b i j)) := by
  rw [arrK_get h2, wFill, if_neg (by omega), if_pos rfl]

theorem schedule_any (v : Value) (xs : List Int) (w : World) (hv : SeqAt .u8 w v xs) (hl : xs.length = 64) (hB : Byt fun j => xs.getD j 0) :
    Calls Tryz.prog 196 #[v] w fun e w' => e = .returned (.agg (arrK .u32 (wAt fun j => xs.getD j 0) 64)) ∧ Up w w' := by
  have HV := hid hv
  obtain ⟨b0, o0, c0, rfl, _⟩ := hv.cell (i := 0) (by omega)
  obtain ⟨_, cap, hshape, hcap1, hcap2⟩ := hv.shape
  simp only [Value.slice.injEq] at hshape
  obtain ⟨-, -, rfl⟩ := hshape
  rw [hl] at hcap1 HV
  rw [hl]
  have HL := hid hl
  obtain ⟨b, hb⟩ : ∃ b : Nat → Int, (fun j => xs.getD j 0) = b := ⟨_, rfl⟩
  rw [hb]
  rw [hb] at hB
  have Hb := hid hb
  have HB := hid hB
  clear hv hl hb hB
  go_enter Tryz.func196, Tryz.ntmps196
  go_wp2_with fail
  obtain ⟨o, ho⟩ : ∃ o, w.heap.size = o := ⟨_, rfl⟩
  rw [ho]
  go_loopw [12] (fun vi wr => ∃ i : Nat, i ≤ 16 ∧ vi = .int .i64 i ∧ Hid (Blk wr (o + 1) 230 (arrK .u32 (wPart b i) 64)) ∧ Hid (Blk wr o 230 (arrK .u32 (fun _ => 0) 64)) ∧ Hid (Up w wr)) (fun vi _ => 16 - (intOf vi).toNat)
  case atStart => exact ⟨0, by omega, rfl, hid (Blk.new (by simp [ho]) (zero64.trans (wPart_none b))), hid ((Blk.new ho zero64).alloc _), hid (((Up.refl w).alloc _).alloc _)⟩
  case round =>
    have HOo := hid ho
    clear ho
    obtain ⟨i, hi, rfl, HW, HR, HU⟩ := hrel
    by_cases hlt : i < 16
    · go_wp2_with fail
      go_loopw [23] (fun vj wr2 => ∃ j : Nat, j ≤ 4 ∧ vj = .int .i64 j ∧ Hid (Blk wr2 (o + 1) 230 (arrK .u32 (wFill b i j) 64)) ∧ Hid (Blk wr2 o 230 (arrK .u32 (fun _ => 0) 64)) ∧ Hid (Up w wr2)) (fun vj _ => 4 - (intOf vj).toNat)
      case atStart => exact ⟨0, by omega, rfl, hid (by rw [← wFill_zero]; exact HW.out), HR, HU⟩
      case round =>
        clear HW HR HU
        obtain ⟨j, hj, rfl, HW, HR, HU⟩ := hrel
        rename_i wr2 _
        by_cases hjl : j < 4
        · obtain ⟨b1, o1, c1, hsh, hx⟩ := (HV.out.up HU.out).cell (i := 4 * i + j) (by rw [HL.out]; omega)
          simp only [Value.slice.injEq, Option.some.injEq, Addr.mk.injEq] at hsh
          obtain ⟨⟨rfl, rfl, -⟩, -, -⟩ := hsh
          rw [← Nat.add_assoc, show xs.getD (4 * i + j) 0 = b (4 * i + j) from congrFun Hb.out _] at hx
          have hw := HW.out.val (wFill_at b (i := i) (j := j) (by omega))
          have hf := HW.out.thawed i
          have HS := hid (wFill_step b i j)
          have r1 := wordTo_range HB.out i j
          have r2 : (256 : Int) ^ j ≤ 16777216 := by
            have : j = 0 ∨ j = 1 ∨ j = 2 ∨ j = 3 := by omega
            rcases this with rfl | rfl | rfl | rfl <;> decide
          have r3 := HB.out (4 * i + j)
          generalize wordTo b i j = x at *
          generalize b (4 * i + j) = c at *
          have hor := or_byte x c r1.1 (by omega) r3.1 r3.2
          have hcm : c % 4294967296 = c := by omega
          have x0 := r1.1
          have x1 : x < 16777216 := by omega
          clear r1 r2 r3
          go_wp2_with fail
          go_roundw
          case rel => exact ⟨j + 1, by omega, by go_num, hid (by rw [← HS.out]; exact HW.out.wrote _ _), hid (HR.out.apart (by simp) _), hid (HU.out.setCell (by simp; have := HOo.out; omega) _)⟩
          case measure => simp [intOf]; omega
        · obtain rfl : j = 4 := by omega
          have HW2 := hid HW.out
          rw [wFill_four b hlt] at HW2
          clear HW hjl
          go_wp2_with fail
          go_roundw
          case rel => exact ⟨i + 1, by omega, by go_num, HW2, HR, HU⟩
          case measure => simp [intOf]; omega
    · have HW16 := hid HW.out
      rw [show i = 16 by omega] at HW16
      clear HW
      go_wp2_with fail
      go_loopw [7] (fun vt wr2 => ∃ t : Nat, 16 ≤ t ∧ t ≤ 64 ∧ vt = .int .i64 t ∧ Hid (Blk wr2 (o + 1) 230 (arrK .u32 (wPart b t) 64)) ∧ Hid (Blk wr2 o 230 (arrK .u32 (fun _ => 0) 64)) ∧ Hid (Up w wr2)) (fun vt _ => 64 - (intOf vt).toNat)
      case atStart => exact ⟨16, by omega, by omega, rfl, HW16, HR, HU⟩
      case round =>
        clear HW16 HR HU
        obtain ⟨t, ht0, ht, rfl, HW, HR, HU⟩ := hrel
        by_cases htl : t < 64
        · have q1 := HW.out.val (wPart_at b (i := t) (t := t - 15) (by omega) (by omega))
          have q2 := HW.out.val (wPart_at b (i := t) (t := t - 2) (by omega) (by omega))
          have q3 := HW.out.val (wPart_at b (i := t) (t := t - 16) (by omega) (by omega))
          have q4 := HW.out.val (wPart_at b (i := t) (t := t - 7) (by omega) (by omega))
          have q5 := HW.out.val (wPart_hole b (i := t) (by omega))
          have q6 := HW.out.thawed t
          have HS := hid (wPart_step b t)
          have HQ : Hid (∀ w3, Blk w3 (o + 1) 230 (arrK .u32 (wPart b t) 64) → w3.cell? ⟨o + 1, t - 16, none⟩ = some (.int .u32 (wAt b (t - 16))) ∧ w3.cell? ⟨o + 1, t - 7, none⟩ = some (.int .u32 (wAt b (t - 7))) ∧ w3.cell? ⟨o + 1, t, none⟩ = some (.int .u32 0)) := hid fun w3 h => ⟨h.val (wPart_at b (by omega) (by omega)), h.val (wPart_at b (by omega) (by omega)), h.val (wPart_hole b (by omega))⟩
          have HE := hid (wAt_high (b := b) ht0)
          have z1 : (15 : Int) ≤ t := by omega
          have z2 : (t : Int) < 64 := by omega
          generalize wAt b (t - 15) = x at *
          generalize wAt b (t - 2) = y at *
          generalize wAt b (t - 16) = p at *
          generalize wAt b (t - 7) = q at *
          go_wp2_with fail
          go_quiet (fail)
          go_wp2_with (go_at_call 197; first | ((with_reducible refine (right_7 _ _).mono ?_); rintro e w' ⟨rfl, rfl⟩) | ((with_reducible refine (right_18 _ _).mono ?_); rintro e w' ⟨rfl, rfl⟩) | ((with_reducible refine (right_17 _ _).mono ?_); rintro e w' ⟨rfl, rfl⟩) | ((with_reducible refine (right_19 _ _).mono ?_); rintro e w' ⟨rfl, rfl⟩))
          have hud := (Up.refl wr).drewN nq
          have HW2 := hid (HW.out.up hud)
          have HR2 := hid (HR.out.up hud)
          have HU2 := hid (HU.out.trans hud)
          clear hud q1 q2 q3 q4 q5 q6
          generalize wr.drewN nq = w3 at *
          obtain ⟨q3, q4, q5⟩ := HQ.out w3 HW2.out
          have q6 := HW2.out.thawed t
          clear HQ HW HR HU
          obtain ⟨s0, hs0⟩ : ∃ s0, sg0 x = s0 := ⟨_, rfl⟩
          obtain ⟨s1, hs1⟩ : ∃ s1, sg1 y = s1 := ⟨_, rfl⟩
          rw [show bits BinOp.xor IntKind.u32 (bits BinOp.xor IntKind.u32 (rotr x 7) (rotr x 18)) (x / 8) = s0 from hs0]
          rw [show bits BinOp.xor IntKind.u32 (bits BinOp.xor IntKind.u32 (rotr y 17) (rotr y 19)) (y / 1024) = s1 from hs1]
          rw [hs0, hs1] at HE
          have HE2 : Hid (wAt b t = (p + s0 + q + s1) % 4294967296) := hid (by rw [HE.out]; simp only [plus, IntKind.wrap_u32]; omega)
          clear hs0 hs1 HE
          go_region
          all_goals (
            go_wp2_with fail
            go_roundw
            case rel => exact ⟨t + 1, by omega, by omega, by go_num, hid (by rw [← HS.out, HE2.out]; exact (HW2.out.wrote _ _).up (Up.refl _).drew), hid ((HR2.out.apart (by simp) _).up (Up.refl _).drew), hid (HU2.out.setCell (by have := HOo.out; show w.heap.size ≤ o + 1; omega) _).drew⟩
            case measure => simp [intOf]; omega)
        · obtain rfl : t = 64 := by omega
          have HW2 := hid HW.out
          rw [wPart_all] at HW2
          clear HW htl ht ht0
          go_wp2_with (first | (refine wpList_load_row rfl 230 _ rfl _ rfl 230 _ (0, 0) _ HW2.out Tryz.underlying230 rfl (by rw [arrK_size]; kernel_rfl) ?_) | (refine wpList_store_row rfl 230 _ _ rfl _ _ rfl rfl 230 _ HR.out (by rw [arrK_size]; kernel_rfl) (by rw [arrK_size, arrK_size]) arrK_one ?_))
          refine bodyPost_ret (v := .agg (arrK .u32 (wAt b) 64)) (results_cell_row rfl _ _ o 230 _ (0, 0) _ (by rfl) (HR.out.row _) Tryz.underlying230 rfl (by rw [arrK_size]; kernel_rfl)) rfl ⟨rfl, HU.out.setRow (by have := HOo.out; omega) _⟩
end Go.Proofs.YtoaomjdpiealfaaGreatDoor
namespace Go.Proofs.YtoaomjdpiealfaaGreatDoor
open Go.RowKit Go.Sp
set_option maxHeartbeats 2000000
set_option maxRecDepth 20000

/-- The cells of a state. -/
def stA (s : St) : Array Value := #[.int .u32 s.a, .int .u32 s.b, .int .u32 s.c, .int .u32 s.d, .int .u32 s.e, .int .u32 s.f, .int .u32 s.g, .int .u32 s.h]

theorem stA_arr (s : St) : stA s = arrK .u32 s.get 8 := by kernel_rfl

/-- The variables of package digest hold what the program's text lays. -/
def TabS (w : World) : Prop :=
  (∃ t fr, w.heap[1]? = some (.cells (stA shaStart) t fr)) ∧ ∀ i, i < 64 → w.cell? ⟨3, i, none⟩ = some (.int .u32 (shaK.getD i 0))

theorem TabS.up {w w' : World} (h : TabS w) (hU : Up w w') : TabS w' := by
  obtain ⟨⟨t, fr, h1⟩, h2⟩ := h
  exact ⟨⟨t, fr, by rw [hU.block (Array.getElem?_eq_some_iff.1 h1).1]; exact h1⟩, fun i hi => by rw [hU.cell (cell_in (h2 i hi))]; exact h2 i hi⟩

theorem index8 (s : St) : ∀ (i : Nat) (_ : i < 8) (w : World), (Instr.index 187 (.agg (stA s)) (.int .i64 i)).run Tryz.prog w = .ok (.int .u32 (s.get i)) w
  | 0, _, _ => by kernel_rfl
  | 1, _, _ => by kernel_rfl
  | 2, _, _ => by kernel_rfl
  | 3, _, _ => by kernel_rfl
  | 4, _, _ => by kernel_rfl
  | 5, _, _ => by kernel_rfl
  | 6, _, _ => by kernel_rfl
  | 7, _, _ => by kernel_rfl

theorem zero8 : #[.int .u32 0, .int .u32 0, .int .u32 0, .int .u32 0, .int .u32 0, .int .u32 0, .int .u32 0, .int .u32 0] = arrK .u32 (fun _ => 0) 8 := by kernel_rfl

/-- The state while the sums are laid into it. -/
def sMix (s v : St) (i : Nat) : Nat → Int := fun j => if j < i then plus (s.get j) (v.get j) else s.get j

theorem sMix_zero (s v : St) : stA s = arrK .u32 (sMix s v 0) 8 := by
  rw [stA_arr]
  exact arrK_congr fun j _ => by simp [sMix]
theorem sMix_at (s v : St) {i : Nat} (hi : i < 8) : (arrK .u32 (sMix s v i) 8)[i]? = some (.int .u32 (s.get i)) := by
  rw [arrK_get hi, sMix, if_neg (by omega)]
theorem sMix_step (s v : St) (i : Nat) : (arrK .u32 (sMix s v i) 8).setIfInBounds i (.int .u32 (plus (s.get i) (v.get i))) = arrK .u32 (sMix s v (i + 1)) 8 := by
  rw [arrK_set]
  refine arrK_congr fun t _ => ?_
  unfold sMix
  by_cases h : t = i
  · subst h
    simp
  · have e1 : (t < i + 1) ↔ (t < i) := by omega
    simp [h, e1]
theorem sMix_all (b : Nat → Int) (s : St) : arrK .u32 (sMix s (rnds b s 64) 8) 8 = stA (mixS b s) := by
  rw [stA_arr]
  refine arrK_congr fun t ht => ?_
  rw [sMix, if_pos ht, mixS_get]

theorem u32_not : (if IntKind.u32.signed = true then (-1 : Int) else IntKind.u32.max) = 4294967295 := by decide

theorem same_turn' {P : Program} {f : FuncId} {args : Array Value} {w : World} {v : Value} (h : Calls P f args w fun e w' => e = .returned v ∧ w = w') : Calls P f args w fun e w' => e = .returned v ∧ w' = w :=
  h.mono fun _ _ ⟨a, b⟩ => ⟨a, b.symm⟩

theorem mix_any (s : St) (v : Value) (xs : List Int) (w : World) (hT : TabS w) (hv : SeqAt .u8 w v xs) (hl : xs.length = 64) (hB : Byt fun j => xs.getD j 0) :
    Calls Tryz.prog 148 #[.agg (stA s), v] w fun e w' => e = .returned (.agg (stA (mixS (fun j => xs.getD j 0) s))) ∧ Up w w' := by
  have HT := hid hT
  have HSch := hid (fun w' (hU : Up w w') => schedule_any v xs w' (hv.up hU) hl hB)
  obtain ⟨a0, cap, rfl, _, _⟩ := hv.shape
  obtain ⟨b, hb⟩ : ∃ b : Nat → Int, (fun j => xs.getD j 0) = b := ⟨_, rfl⟩
  rw [hb] at HSch
  rw [hb]
  clear hT hv hl hB hb
  obtain ⟨R, hR⟩ : ∃ R, stA (mixS b s) = R := ⟨_, rfl⟩
  rw [hR]
  have HR := hid hR
  clear hR
  have HA := hid (stA_arr s)
  have HE := hid (rfl : s = ⟨s.a, s.b, s.c, s.d, s.e, s.f, s.g, s.h⟩)
  unfold stA
  go_enter Tryz.func148, Tryz.ntmps148
  go_wp2_with fail
  refine (HSch.out _ (((Up.refl w).alloc _).alloc _)).mono ?_
  rintro e w1 ⟨rfl, hU1⟩
  obtain ⟨o, ho⟩ : ∃ o, w.heap.size = o := ⟨_, rfl⟩
  have HOo := hid ho
  rw [ho]
  have hS1 : Blk w1 o 187 (stA s) := ((Blk.new ho rfl).alloc _).up hU1
  have hZ1 : Blk w1 (o + 1) 187 (arrK .u32 (fun _ => 0) 8) := (Blk.new (by simp [ho]) zero8).up hU1
  have hU2 := ((((Up.refl w).alloc _).alloc _).trans hU1).alloc (.cells (arrK .u32 (wAt b) 64) 230)
  clear hU1 ho
  go_wp2_with (first | (refine wpList_store_rowTo rfl 230 _ _ rfl rfl _ _ rfl rfl 230 _ (heap_alloc_new _ _) (by rw [arrK_size]; kernel_rfl) (by rw [arrK_size]; rfl) arrK_one ?_; rw [World.setRow_alloc_new]))
  obtain ⟨g, hg⟩ : ∃ g, w1.heap.size = g := ⟨_, rfl⟩
  rw [hg]
  obtain ⟨w2, hw2⟩ : ∃ w2, w1.alloc (.cells (arrK .u32 (wAt b) 64) 230) = w2 := ⟨_, rfl⟩
  have hW2 : Blk w2 g 230 (arrK .u32 (wAt b) 64) := by rw [← hw2]; exact Blk.new hg rfl
  have hS2 : Blk w2 o 187 (stA s) := by rw [← hw2]; exact hS1.alloc _
  have hZ2 : Blk w2 (o + 1) 187 (arrK .u32 (fun _ => 0) 8) := by rw [← hw2]; exact hZ1.alloc _
  have l1 := hS1.lt
  have l2 := hZ1.lt
  rw [hg] at l1 l2
  rw [hw2] at hU2
  rw [hw2]
  clear hw2 hS1 hZ1 hg
  have c0 := hS2.val (i := 0) rfl
  have c1 := hS2.val (i := 1) rfl
  have c2 := hS2.val (i := 2) rfl
  have c3 := hS2.val (i := 3) rfl
  have c4 := hS2.val (i := 4) rfl
  have c5 := hS2.val (i := 5) rfl
  have c6 := hS2.val (i := 6) rfl
  have c7 := hS2.val (i := 7) rfl
  go_quiet (fail)
  have hud := (Up.refl w2).drewN nq
  have HW := hid (hW2.up hud)
  have HS := hid (hS2.up hud)
  have HZ := hid (hZ2.up hud)
  have HU := hid (hU2.trans hud)
  clear hud c0 c1 c2 c3 c4 c5 c6 c7 hW2 hS2 hZ2 hU2
  generalize w2.drewN nq = w3 at *
  go_wp2_with fail
  go_loopw [6, 7, 8, 9, 10, 11, 12, 13, 37] (fun v0 v1 v2 v3 v4 v5 v6 v7 vt wr => ∃ (t : Nat) (A B C D E F G H : Int), t ≤ 64 ∧ vt = .int .i64 t ∧ v0 = .int .u32 A ∧ v1 = .int .u32 B ∧ v2 = .int .u32 C ∧ v3 = .int .u32 D ∧ v4 = .int .u32 E ∧ v5 = .int .u32 F ∧ v6 = .int .u32 G ∧ v7 = .int .u32 H ∧
      Hid (rnds b s t = ⟨A, B, C, D, E, F, G, H⟩) ∧ Hid (Blk wr g 230 (arrK .u32 (wAt b) 64)) ∧ Hid (Blk wr o 187 (stA s)) ∧ Hid (Blk wr (o + 1) 187 (arrK .u32 (fun _ => 0) 8)) ∧ Hid (Up w wr)) (fun _ _ _ _ _ _ _ _ vt _ => 64 - (intOf vt).toNat)
  case atStart => exact ⟨0, _, _, _, _, _, _, _, _, by omega, rfl, rfl, rfl, rfl, rfl, rfl, rfl, rfl, rfl, hid rfl, HW, HS, HZ, HU⟩
  case round =>
    clear HW HS HZ HU
    obtain ⟨t, A, B, C, D, E, F, G, H, ht, rfl, rfl, rfl, rfl, rfl, rfl, rfl, rfl, rfl, HX, HW, HS, HZ, HU⟩ := hrel
    by_cases hlt : t < 64
    · have q1 := HW.out.val (arrK_get hlt)
      have q2 := (HT.out.up HU.out).2 t hlt
      have HN : Hid (rnds b s (t + 1) = rnd ⟨A, B, C, D, E, F, G, H⟩ (shaK.getD t 0) (wAt b t)) := hid (by rw [rnds, HX.out])
      have z2 : (t : Int) < 64 := by omega
      generalize wAt b t = W at *
      generalize shaK.getD t 0 = K at *
      go_wp2_with fail
      go_quiet ((go_at_call 197; first | ((with_reducible (show Calls _ _ #[_, .int .i64 6] _ _)); exact Calls.quiet_of_same (same_turn' (right_6 _ _))) | ((with_reducible (show Calls _ _ #[_, .int .i64 11] _ _)); exact Calls.quiet_of_same (same_turn' (right_11 _ _))) | ((with_reducible (show Calls _ _ #[_, .int .i64 25] _ _)); exact Calls.quiet_of_same (same_turn' (right_25 _ _)))))
      have hud := (Up.refl wr).drewN nq
      have HW2 := hid (HW.out.up hud)
      have HS2 := hid (HS.out.up hud)
      have HZ2 := hid (HZ.out.up hud)
      have HU2 := hid (HU.out.trans hud)
      clear hud q1 q2 HW HS HZ HU
      generalize wr.drewN nq = w4 at *
      go_wp2_with (go_at_call 197; first | ((with_reducible (show Calls _ _ #[_, .int .i64 2] _ _)); refine (right_2 _ _).mono ?_; rintro e w' ⟨rfl, rfl⟩) | ((with_reducible (show Calls _ _ #[_, .int .i64 13] _ _)); refine (right_13 _ _).mono ?_; rintro e w' ⟨rfl, rfl⟩) | ((with_reducible (show Calls _ _ #[_, .int .i64 22] _ _)); refine (right_22 _ _).mono ?_; rintro e w' ⟨rfl, rfl⟩))
      go_roundw
      case rel => exact ⟨t + 1, _, _, _, _, _, _, _, _, by omega, by go_num, rfl, rfl, rfl, rfl, rfl, rfl, rfl, rfl, hid (by rw [HN.out]; simp only [rnd, rndX, rndY, bs0, bs1, chs, maj, plus, u32_not, IntKind.wrap_u32, St.mk.injEq]; refine ⟨?_, trivial, trivial, trivial, ?_, trivial, trivial, trivial⟩ <;> omega), HW2, HS2, HZ2, HU2⟩
      case measure => simp [intOf]; omega
    · obtain ⟨V, hV⟩ : ∃ V : St, (⟨A, B, C, D, E, F, G, H⟩ : St) = V := ⟨_, rfl⟩
      have HV : Hid (rnds b s 64 = V) := hid (by rw [← hV, ← HX.out, show t = 64 by omega])
      have HVV := hid hV
      have HS3 := hid HS.out
      rw [sMix_zero s V] at HS3
      clear HX HW HS hV
      go_wp2_with fail
      go_loopw [109] (fun vi wr => ∃ i : Nat, i ≤ 8 ∧ vi = .int .i64 i ∧ Hid (Blk wr o 187 (arrK .u32 (sMix s V i) 8)) ∧ Hid (Blk wr (o + 1) 187 (arrK .u32 (fun _ => 0) 8)) ∧ Hid (Up w wr)) (fun vi _ => 8 - (intOf vi).toNat)
      case atStart => exact ⟨0, by omega, rfl, HS3, HZ, HU⟩
      case round =>
        clear HS3 HZ HU
        obtain ⟨i, hi, rfl, HS, HZ, HU⟩ := hrel
        by_cases hil : i < 8
        · have q1 := HS.out.val (sMix_at s V hil)
          have q2 := HS.out.thawed i
          have q3 : ∀ w', (Instr.index 187 (.agg #[.int .u32 A, .int .u32 B, .int .u32 C, .int .u32 D, .int .u32 E, .int .u32 F, .int .u32 G, .int .u32 H]) (.int .i64 i)).run Tryz.prog w' = .ok (.int .u32 (V.get i)) w' := fun w' => by rw [← HVV.out]; exact index8 ⟨A, B, C, D, E, F, G, H⟩ i hil w'
          have HN := hid (sMix_step s V i)
          generalize s.get i = x at *
          generalize V.get i = y at *
          go_wp2_with fail
          go_roundw
          case rel => exact ⟨i + 1, by omega, by go_num, hid (by rw [← HN.out, show plus x y = (x + y) % 4294967296 from IntKind.wrap_u32 _]; exact HS.out.wrote _ _), hid (HZ.out.apart (by simp) _), hid (HU.out.setCell (by have := HOo.out; show w.heap.size ≤ o; omega) _)⟩
          case measure => simp [intOf]; omega
        · have HR2 : Hid (arrK .u32 (sMix s V i) 8 = R) := hid (by rw [show i = 8 by omega, ← HV.out, sMix_all]; exact HR.out)
          have HS4 := hid HS.out
          rw [HR2.out] at HS4
          have HSz : Hid (R.size = 8 ∧ R.all (·.oneCell') = true) := hid ⟨by rw [← HR2.out, arrK_size], by rw [← HR2.out]; exact arrK_one⟩
          clear HS HR2
          go_wp2_with (first | (refine wpList_load_row rfl 187 _ rfl _ rfl 187 _ (0, 0) _ HS4.out Tryz.underlying187 rfl (by rw [HSz.out.1]; kernel_rfl) ?_) | (refine wpList_store_rowTo rfl 187 _ _ rfl rfl _ _ rfl rfl 187 _ HZ.out (by rw [HSz.out.1]; kernel_rfl) (by rw [arrK_size, HSz.out.1]) HSz.out.2 ?_))
          refine bodyPost_ret (v := .agg R) (results_cell_row rfl _ _ (o + 1) 187 _ (0, 0) _ (by rfl) (HZ.out.row _) Tryz.underlying187 rfl (by rw [HSz.out.1]; kernel_rfl)) rfl ⟨rfl, HU.out.setRow (by have := HOo.out; omega) _⟩
end Go.Proofs.YtoaomjdpiealfaaGreatDoor
