/- Items in memory, and their encodings. Over any program. Package encode: valid items; numbers. -/
import Derived.Test.YtdlcmpbpdbpanaaGreatDoorMUnlinkExplains17
import Derived.Test.YtdlcmpbpdbpanaaGreatDoorMUnlinkExplains29
namespace Go.Sp
open Go.RowKit

/-- An item as a value. -/
abbrev nilS : Value := .slice none 0 0
abbrev itm (k n : Int) (b l : Value) : Value := .agg #[.int .i64 k, .int .i64 n, b, l]

/-- The cells of an item at an offset of a block. -/
def ItmCells (w : World) (b o : Nat) (k n : Int) (vb vl : Value) : Prop :=
  w.cell? ⟨b, o, none⟩ = some (.int .i64 k) ∧ w.cell? ⟨b, o + 1, none⟩ = some (.int .i64 n) ∧ w.cell? ⟨b, o + 2, none⟩ = some vb ∧ w.cell? ⟨b, o + 3, none⟩ = some vl

/-- A slice of items, of which each has a property and an encoding. -/
def ItmRow (R : Int → Int → Value → Value → List Int → Prop) (w : World) (v : Value) (ess : List (List Int)) : Prop :=
  ∃ a cap, v = .slice a ess.length cap ∧ ess.length ≤ cap ∧ cap ≤ 9223372036854775807 ∧ (a = none → cap = 0) ∧
    ∀ i, i < ess.length → ∃ b off k n vb vl, a = some ⟨b, off, none⟩ ∧ ItmCells w b (off + i * 4) k n vb vl ∧ R k n vb vl (ess.getD i [])

/-- An integer, or bytes. -/
def Leaf (w : World) (k n : Int) (b l : Value) (es : List Int) : Prop :=
  (k = 1 ∧ b = nilS ∧ l = nilS ∧ es = encInt n) ∨ (k = 2 ∧ n = 0 ∧ l = nilS ∧ ∃ xs, SeqAt .u8 w b xs ∧ xs.length ≤ 1000000 ∧ (∀ x ∈ xs, 0 ≤ x ∧ x ≤ 255) ∧ es = encBytes xs)

/-- An item with so many lists about its leaves at most, and its encoding. -/
def ItmAt (w : World) : Nat → Int → Int → Value → Value → List Int → Prop
  | 0, k, n, b, l, es => Leaf w k n b l es
  | d + 1, k, n, b, l, es => Leaf w k n b l es ∨ (k = 3 ∧ n = 0 ∧ b = nilS ∧ ∃ ess, ess.length ≤ 1000 ∧ ItmRow (ItmAt w d) w l ess ∧ es = encList ess)

theorem ItmCells.up {w w' : World} {b o : Nat} {k n : Int} {vb vl : Value} (h : ItmCells w b o k n vb vl) (hU : Up w w') : ItmCells w' b o k n vb vl := by
  obtain ⟨h1, h2, h3, h4⟩ := h
  exact ⟨by rw [hU.cell (cell_in h1)]; exact h1, by rw [hU.cell (cell_in h1)]; exact h2, by rw [hU.cell (cell_in h1)]; exact h3, by rw [hU.cell (cell_in h1)]; exact h4⟩

theorem ItmRow.up {R R' : Int → Int → Value → Value → List Int → Prop} {w w' : World} {v : Value} {ess : List (List Int)} (h : ItmRow R w v ess) (hU : Up w w') (hR : ∀ k n b l es, R k n b l es → R' k n b l es) : ItmRow R' w' v ess := by
  obtain ⟨a, cap, h1, h2, h3, h4, h5⟩ := h
  refine ⟨a, cap, h1, h2, h3, h4, fun i hi => ?_⟩
  obtain ⟨b, off, k, n, vb, vl, ha, hc, hr⟩ := h5 i hi
  exact ⟨b, off, k, n, vb, vl, ha, hc.up hU, hR _ _ _ _ _ hr⟩

theorem Leaf.up {w w' : World} {k n : Int} {b l : Value} {es : List Int} (h : Leaf w k n b l es) (hU : Up w w') : Leaf w' k n b l es := by
  rcases h with h | ⟨h1, h2, h3, xs, h4, h5⟩
  · exact .inl h
  · exact .inr ⟨h1, h2, h3, xs, h4.up hU, h5⟩

theorem ItmAt.up {w w' : World} (hU : Up w w') : ∀ {d : Nat} {k n : Int} {b l : Value} {es : List Int}, ItmAt w d k n b l es → ItmAt w' d k n b l es
  | 0, _, _, _, _, _, h => Leaf.up h hU
  | _ + 1, _, _, _, _, _, .inl h => .inl (h.up hU)
  | _ + 1, _, _, _, _, _, .inr ⟨h1, h2, h3, ess, h4, h5, h6⟩ => .inr ⟨h1, h2, h3, ess, h4, h5.up hU fun _ _ _ _ _ => ItmAt.up hU, h6⟩

theorem ItmAt.leaf {w : World} {k n : Int} {b l : Value} {es : List Int} (h : Leaf w k n b l es) : ∀ d, ItmAt w d k n b l es
  | 0 => h
  | _ + 1 => .inl h

theorem ItmAt.more {w : World} : ∀ {d : Nat} {k n : Int} {b l : Value} {es : List Int}, ItmAt w d k n b l es → ItmAt w (d + 1) k n b l es
  | 0, _, _, _, _, _, h => .inl h
  | _ + 1, _, _, _, _, _, .inl h => .inl h
  | _ + 1, _, _, _, _, _, .inr ⟨h1, h2, h3, ess, h4, h5, h6⟩ => .inr ⟨h1, h2, h3, ess, h4, h5.up (Up.refl _) fun _ _ _ _ _ => ItmAt.more, h6⟩

theorem itm_int (w : World) (n : Int) (d : Nat) : ItmAt w d 1 n nilS nilS (encInt n) := ItmAt.leaf (.inl ⟨rfl, rfl, rfl, rfl⟩) d
theorem itm_bytes {w : World} {v : Value} {xs : List Int} (h : SeqAt .u8 w v xs) (hl : xs.length ≤ 1000000) (hB : ∀ x ∈ xs, 0 ≤ x ∧ x ≤ 255) (d : Nat) : ItmAt w d 2 0 v nilS (encBytes xs) :=
  ItmAt.leaf (.inr ⟨rfl, rfl, rfl, xs, h, hl, hB, rfl⟩) d
theorem itm_list {w : World} {v : Value} {ess : List (List Int)} {d : Nat} (h : ItmRow (ItmAt w d) w v ess) (hl : ess.length ≤ 1000) : ItmAt w (d + 1) 3 0 nilS v (encList ess) := .inr ⟨rfl, rfl, rfl, ess, hl, h, rfl⟩

/-- What writes as far as 16384 bytes. -/
def Wrote (xs es ys : List Int) : Prop := (xs.length + es.length ≤ 16384 → ys = xs ++ es) ∧ (16384 < xs.length + es.length → 16384 < ys.length) ∧ ys.length ≤ xs.length + es.length

theorem Wrote.full {xs : List Int} (es : List Int) (h : 16384 < xs.length) : Wrote xs es xs := ⟨fun h' => by omega, fun _ => h, by omega⟩
theorem Wrote.all (xs es : List Int) : Wrote xs es (xs ++ es) := ⟨fun _ => rfl, fun h => by rw [List.length_append]; exact h, by rw [List.length_append]; omega⟩
theorem Wrote.next {xs a ys b zs : List Int} (h : Wrote xs a ys) (k : Wrote ys b zs) : Wrote xs (a ++ b) zs := by
  obtain ⟨h1, h2, h3⟩ := h
  obtain ⟨k1, k2, k3⟩ := k
  rw [Wrote, List.length_append]
  refine ⟨fun hl => ?_, fun hl => ?_, by omega⟩
  · have e1 := h1 (by omega)
    rw [k1 (by rw [e1, List.length_append]; omega), e1, List.append_assoc]
  · by_cases hx : xs.length + a.length ≤ 16384
    · have e1 := h1 hx
      exact k2 (by rw [e1, List.length_append]; omega)
    · have := h2 (by omega)
      exact k2 (by omega)

theorem flatten_take {ess : List (List Int)} {i : Nat} (hi : i < ess.length) : (ess.take (i + 1)).flatten = (ess.take i).flatten ++ ess.getD i [] := by
  rw [List.take_succ_eq_append_getElem hi, List.flatten_append]
  simp [hi]
theorem flatten_take_le (ess : List (List Int)) (i : Nat) : (ess.take i).flatten.length ≤ ess.flatten.length := by
  have : ess.flatten = (ess.take i).flatten ++ (ess.drop i).flatten := by rw [← List.flatten_append, List.take_append_drop]
  rw [this, List.length_append]
  omega
theorem flatten_at_le {ess : List (List Int)} {i : Nat} (hi : i < ess.length) : (ess.take i).flatten.length + (ess.getD i []).length ≤ ess.flatten.length := by
  have h := flatten_take_le ess (i + 1)
  rw [flatten_take hi, List.length_append] at h
  exact h

/-- The four cells of an item. -/
structure Quad where
  (k n : Int)
  (b l : Value)
def Quad.cells (q : Quad) : List Value := [.int .i64 q.k, .int .i64 q.n, q.b, q.l]
/-- The items are the call's own. -/
def OwnQ (e : TypeId) (w : World) (base : Nat) (v : Value) (qs : List Quad) : Prop := w.ownsRow base e 4 v qs.length (qs.flatMap Quad.cells)
/-- Each of the items has its encoding. -/
def QuadAt (w : World) (d : Nat) (qs : List Quad) (ess : List (List Int)) : Prop := qs.length = ess.length ∧ ∀ i (h : i < qs.length), ItmAt w d qs[i].k qs[i].n qs[i].b qs[i].l (ess.getD i [])

theorem quads_at (qs : List Quad) (i j : Nat) (h : i < qs.length) (hj : j < 4) : (qs.flatMap Quad.cells)[i * 4 + j]? = (qs[i].cells)[j]? := by
  induction qs generalizing i with
  | nil => simp at h
  | cons q qs ih =>
    rw [List.flatMap_cons]
    have hl : q.cells.length = 4 := rfl
    cases i with
    | zero =>
      rw [List.getElem?_append_left (by omega)]
      simp
    | succ i =>
      rw [List.getElem?_append_right (by omega), hl, show (i + 1) * 4 + j - 4 = i * 4 + j by omega, ih i (by simpa using h)]
      simp
theorem quads_length (qs : List Quad) : (qs.flatMap Quad.cells).length = qs.length * 4 := by
  induction qs with
  | nil => rfl
  | cons q qs ih =>
    rw [List.flatMap_cons, List.length_append, ih, List.length_cons]
    have hl : q.cells.length = 4 := rfl
    omega

theorem ownQ_none {e : TypeId} {w : World} {base : Nat} : OwnQ e w base nilS [] := ⟨by simp, .inl ⟨rfl, rfl⟩⟩

theorem OwnQ.row {e : TypeId} {w : World} {base : Nat} {v : Value} {qs : List Quad} {d : Nat} {ess : List (List Int)} (h : OwnQ e w base v qs) (hq : QuadAt w d qs ess) : ItmRow (ItmAt w d) w v ess := by
  obtain ⟨hlen, hq⟩ := hq
  have hh := h
  rcases h.2 with ⟨hv, hn⟩ | ⟨g, cap, cur, rfl, hb, hg, hn, hm, hs, ht⟩
  · exact ⟨none, 0, by rw [hv, ← hlen, hn], by omega, by omega, fun _ => rfl, fun i hi => by omega⟩
  · refine ⟨_, cap, by rw [hlen], by omega, by unfold maxLen at hm; omega, (fun h => by cases h), fun i hi => ?_⟩
    have hi' : i < qs.length := by omega
    have hc : ∀ j, j < 4 → w.cell? ⟨g, 0 + i * 4 + j, none⟩ = qs[i].cells[j]? := fun j hj => by
      rw [← quads_at qs i j hi' hj, Nat.zero_add]
      exact World.ownsRow.cellAt hh (i * 4 + j) (by omega)
    refine ⟨g, 0, qs[i].k, qs[i].n, qs[i].b, qs[i].l, rfl, ⟨by rw [show 0 + i * 4 = 0 + i * 4 + 0 from rfl, hc 0 (by omega)]; rfl, by rw [hc 1 (by omega)]; rfl, by rw [hc 2 (by omega)]; rfl, by rw [hc 3 (by omega)]; rfl⟩, hq i hi'⟩

theorem Leaf.one {w : World} {k n : Int} {b l : Value} {es : List Int} (h : Leaf w k n b l es) : b.oneCell' = true ∧ l.oneCell' = true := by
  rcases h with ⟨_, rfl, rfl, _⟩ | ⟨_, _, rfl, xs, h, _⟩
  · exact ⟨rfl, rfl⟩
  · obtain ⟨a, cap, rfl, _⟩ := h
    exact ⟨rfl, rfl⟩
theorem ItmAt.one {w : World} : ∀ {d : Nat} {k n : Int} {b l : Value} {es : List Int}, ItmAt w d k n b l es → b.oneCell' = true ∧ l.oneCell' = true
  | 0, _, _, _, _, _, h => Leaf.one h
  | _ + 1, _, _, _, _, _, .inl h => h.one
  | _ + 1, _, _, _, _, _, .inr ⟨_, _, h, ess, _, h5, _⟩ => by
    obtain ⟨a, cap, rfl, _⟩ := h5
    subst h
    exact ⟨rfl, rfl⟩

/-- append(l, more...) onto the call's own items: at the operation of a walk. -/
theorem wp_appQ {P : Program} {e t : TypeId} {z : Value} {bytes : Nat} (hI : (P.info? e).map (fun i => (i.zero, i.size, i.bytes)) = some (some z, 4, bytes)) (hz : z.cells.size = 4) (ht : P.underlying t = some (.slice e)) (hby : bytes ≤ 64)
    {ops : Array Oper} {rest : List Oper} {o : Oper} {a : Act} {w : World} {Q : Exit → Act → World → Prop} (hgd : o.guard = none) (s x : Operand)
    (ho : o.op = .call { callee := .builtin .append, args := #[s, x], argTypes := #[t, t] })
    (base : Nat) {v : Value} {qs news : List Quad} (hs : a.eval s = v) (hown : OwnQ e w base v qs) (g c : Nat) (hx : a.eval x = .slice (some ⟨g, 0, none⟩) news.length c)
    (hblk : ∀ i (h : i < news.length), ItmCells w g (i * 4) news[i].k news[i].n news[i].b news[i].l) (hone : ∀ i (h : i < news.length), news[i].b.oneCell' = true ∧ news[i].l.oneCell' = true)
    (hroom : qs.length + news.length ≤ 1000000) (hbase : base ≤ w.heap.size)
    (h : ∀ v' w', OwnQ e w' base v' (qs ++ news) → w.grownBy w' v.ownBlock → wpList P ops Q rest (a.put o.dst v') w') : wpList P ops Q (o :: rest) a w := by
  obtain ⟨i0, hi, hz0, hz1, hz2⟩ := info_parts hI
  refine wpList_append_own w hgd s x t ho base e i0 z 4 bytes ht hi hz0 hz1 hz2 hz (by decide) v qs.length _ hs hown ⟨g, 0, none⟩ news.length c (news.flatMap Quad.cells) hx (quads_length _) (fun j u hj => ?_) (fun u hu => ?_) (by unfold maxLen; omega) (by
      have := Nat.mul_le_mul hroom hby
      omega) hbase fun v' w' h1 h2 _ => h v' w' (by
        unfold OwnQ
        rw [List.length_append, List.flatMap_append]
        exact h1) h2
  · have hj2 : j < news.length * 4 := by
      have := (List.getElem?_eq_some_iff.1 hj).1
      rw [quads_length] at this
      exact this
    rw [Addr.add_lit, Nat.zero_add]
    obtain ⟨c0, c1, c2, c3⟩ := hblk (j / 4) (by omega)
    have hq := quads_at news (j / 4) (j % 4) (by omega) (by omega)
    rw [show j / 4 * 4 + j % 4 = j by omega, hj] at hq
    have hr : j % 4 = 0 ∨ j % 4 = 1 ∨ j % 4 = 2 ∨ j % 4 = 3 := by omega
    rw [show j = j / 4 * 4 + j % 4 by omega]
    rcases hr with hr | hr | hr | hr <;> rw [hr] at hq ⊢ <;> simp only [Quad.cells, List.getElem?_cons_zero, List.getElem?_cons_succ] at hq
    · rw [hq]; exact c0
    · rw [hq]; exact c1
    · rw [hq]; exact c2
    · rw [hq]; exact c3
  · obtain ⟨q, hq, hu⟩ := List.mem_flatMap.1 hu
    obtain ⟨i, hi, rfl⟩ := List.getElem_of_mem hq
    obtain ⟨o1, o2⟩ := hone i hi
    simp only [Quad.cells, List.mem_cons, List.not_mem_nil, or_false] at hu
    rcases hu with rfl | rfl | rfl | rfl
    · rfl
    · rfl
    · exact o1
    · exact o2

theorem QuadAt.nil (w : World) (d : Nat) : QuadAt w d [] [] := ⟨rfl, fun i h => by simp at h⟩
theorem QuadAt.app {w : World} {d : Nat} {qs rs : List Quad} {es fs : List (List Int)} (h : QuadAt w d qs es) (k : QuadAt w d rs fs) : QuadAt w d (qs ++ rs) (es ++ fs) := by
  refine ⟨by rw [List.length_append, List.length_append, h.1, k.1], fun i hi => ?_⟩
  rw [List.length_append] at hi
  by_cases h1 : i < qs.length
  · rw [List.getElem_append_left h1, List.getD_eq_getElem?_getD, List.getElem?_append_left (by have := h.1; omega), ← List.getD_eq_getElem?_getD]
    exact h.2 i h1
  · rw [List.getElem_append_right (by omega), List.getD_eq_getElem?_getD, List.getElem?_append_right (by have := h.1; omega), ← List.getD_eq_getElem?_getD, ← h.1]
    exact k.2 (i - qs.length) (by omega)
theorem QuadAt.one {w : World} {d : Nat} {q : Quad} {es : List Int} (h : ItmAt w d q.k q.n q.b q.l es) : QuadAt w d [q] [es] :=
  ⟨rfl, fun i hi => by
    obtain rfl : i = 0 := by simp at hi; omega
    exact h⟩

theorem OwnQ.up {e : TypeId} {w w' : World} {base : Nat} {v : Value} {qs : List Quad} (h : OwnQ e w base v qs) (hU : Up w w') : OwnQ e w' base v qs := ownsRow_later h hU
theorem QuadAt.up {w w' : World} {d : Nat} {qs : List Quad} {ess : List (List Int)} (h : QuadAt w d qs ess) (hU : Up w w') : QuadAt w' d qs ess := ⟨h.1, fun i hi => (h.2 i hi).up hU⟩
theorem OwnQ.block {e : TypeId} {w : World} {base : Nat} {v : Value} {qs : List Quad} (h : OwnQ e w base v qs) (j : Nat) (hj : v.ownBlock = some j) : base ≤ j := by
  rcases h.2 with ⟨hv, _⟩ | ⟨g, cap, cur, rfl, hb, _⟩
  · rw [hv] at hj; cases hj
  · simp [Value.ownBlock] at hj; omega
theorem OwnQ.shape {e : TypeId} {w : World} {base : Nat} {v : Value} {qs : List Quad} (h : OwnQ e w base v qs) : ∃ a c, v = .slice a qs.length c := by
  rcases h.2 with ⟨hv, hn⟩ | ⟨g, cap, cur, rfl, _⟩
  · exact ⟨none, 0, by rw [hv, hn]⟩
  · exact ⟨_, _, rfl⟩
theorem OwnQ.below {e : TypeId} {w w' : World} {base : Nat} {v : Value} {qs : List Quad} (h : OwnQ e w base v qs) (hg : w.grownBy w' v.ownBlock) (hb : base ≤ w.heap.size) : Below base w w' := Below.grown (Below.refl base w) hg hb fun j hj => h.block j hj

/-- append(l, more...) onto the call's own items: at the operation. -/
theorem op_appQ {P : Program} {e t : TypeId} {z : Value} {bytes : Nat} (hI : (P.info? e).map (fun i => (i.zero, i.size, i.bytes)) = some (some z, 4, bytes)) (hz : z.cells.size = 4) (ht : P.underlying t = some (.slice e)) (hby : bytes ≤ 64)
    {o : Oper} {a : Act} {w : World} {K : Act → World → Prop} {Q : Exit → Act → World → Prop} (s x : Operand)
    (ho : o.op = .call { callee := .builtin .append, args := #[s, x], argTypes := #[t, t] })
    (base : Nat) {v : Value} {qs news : List Quad} (hs : a.eval s = v) (hown : OwnQ e w base v qs) (g c : Nat) (hx : a.eval x = .slice (some ⟨g, 0, none⟩) news.length c)
    (hblk : ∀ i (h : i < news.length), ItmCells w g (i * 4) news[i].k news[i].n news[i].b news[i].l) (hone : ∀ i (h : i < news.length), news[i].b.oneCell' = true ∧ news[i].l.oneCell' = true)
    (hroom : qs.length + news.length ≤ 1000000) (hbase : base ≤ w.heap.size)
    (h : ∀ v' w', OwnQ e w' base v' (qs ++ news) → w.grownBy w' v.ownBlock → K (a.put o.dst v') w') : o.wp P a w K Q := by
  obtain ⟨i0, hi, hz0, hz1, hz2⟩ := info_parts hI
  refine wp_append_own w s x t ho base e i0 z 4 bytes ht hi hz0 hz1 hz2 hz (by decide) v qs.length _ hs hown ⟨g, 0, none⟩ news.length c (news.flatMap Quad.cells) hx (quads_length _) (fun j u hj => ?_) (fun u hu => ?_) (by unfold maxLen; omega) (by
      have := Nat.mul_le_mul hroom hby
      omega) hbase fun v' w' h1 h2 _ => h v' w' (by
        unfold OwnQ
        rw [List.length_append, List.flatMap_append]
        exact h1) h2
  · have hj2 : j < news.length * 4 := by
      have := (List.getElem?_eq_some_iff.1 hj).1
      rw [quads_length] at this
      exact this
    rw [Addr.add_lit, Nat.zero_add]
    obtain ⟨c0, c1, c2, c3⟩ := hblk (j / 4) (by omega)
    have hq := quads_at news (j / 4) (j % 4) (by omega) (by omega)
    rw [show j / 4 * 4 + j % 4 = j by omega, hj] at hq
    have hr : j % 4 = 0 ∨ j % 4 = 1 ∨ j % 4 = 2 ∨ j % 4 = 3 := by omega
    rw [show j = j / 4 * 4 + j % 4 by omega]
    rcases hr with hr | hr | hr | hr <;> rw [hr] at hq ⊢ <;> simp only [Quad.cells, List.getElem?_cons_zero, List.getElem?_cons_succ] at hq
    · rw [hq]; exact c0
    · rw [hq]; exact c1
    · rw [hq]; exact c2
    · rw [hq]; exact c3
  · obtain ⟨q, hq, hu⟩ := List.mem_flatMap.1 hu
    obtain ⟨i, hi, rfl⟩ := List.getElem_of_mem hq
    obtain ⟨o1, o2⟩ := hone i hi
    simp only [Quad.cells, List.mem_cons, List.not_mem_nil, or_false] at hu
    rcases hu with rfl | rfl | rfl | rfl
    · rfl
    · rfl
    · exact o1
    · exact o2

/-- The same at a step of a region that draws its order. -/
theorem step_appQ {P : Program} {e t : TypeId} {z : Value} {bytes : Nat} (hI : (P.info? e).map (fun i => (i.zero, i.size, i.bytes)) = some (some z, 4, bytes)) (hz : z.cells.size = 4) (ht : P.underlying t = some (.slice e)) (hby : bytes ≤ 64)
    {ops : Array Oper} {o : Oper} {a : Act} {w : World} {K : Act → World → Prop} {Q : Exit → Act → World → Prop} {E : Prop} (hgd : o.guard = none) (s x : Operand)
    (ho : o.op = .call { callee := .builtin .append, args := #[s, x], argTypes := #[t, t] })
    (base : Nat) {v : Value} {qs news : List Quad} (hs : a.eval s = v) (hown : OwnQ e w base v qs) (g c : Nat) (hx : a.eval x = .slice (some ⟨g, 0, none⟩) news.length c)
    (hblk : ∀ i (h : i < news.length), ItmCells w g (i * 4) news[i].k news[i].n news[i].b news[i].l) (hone : ∀ i (h : i < news.length), news[i].b.oneCell' = true ∧ news[i].l.oneCell' = true)
    (hroom : qs.length + news.length ≤ 1000000) (hbase : base ≤ w.heap.size)
    (h : ∀ v' w', OwnQ e w' base v' (qs ++ news) → w.grownBy w' v.ownBlock → K (a.put o.dst v') w') : if Region.wanted o (yielded ops a.tmps) = true then Oper.wp P o a w K Q else E := by
  have hw : Region.wanted o (yielded ops a.tmps) = true := by simp [Region.wanted, hgd]
  rw [if_pos hw]
  exact op_appQ hI hz ht hby s x ho base hs hown g c hx hblk hone hroom hbase h

theorem itm_new {w : World} {g : Nat} {k n : Int} {b l : Value} {t : TypeId} (hg : w.heap.size = g) : ItmCells (w.alloc (.cells #[.int .i64 k, .int .i64 n, b, l] t)) g 0 k n b l := by
  have h : Blk (w.alloc (.cells #[.int .i64 k, .int .i64 n, b, l] t)) g t #[.int .i64 k, .int .i64 n, b, l] := Blk.new hg rfl
  exact ⟨h.val rfl, h.val rfl, h.val rfl, h.val rfl⟩

theorem OwnQ.set {e : TypeId} {w : World} {base : Nat} {v : Value} {qs : List Quad} (h : OwnQ e w base v qs) {a : Addr} (ha : a.block < base) (x : Value) : OwnQ e (w.setCell a x) base v qs := by
  refine ⟨h.1, ?_⟩
  rcases h.2 with hn | ⟨g, cap, cur, rfl, hb, hg, rest⟩
  · exact .inl hn
  · exact .inr ⟨g, cap, cur, rfl, hb, by rw [Below.heap_setCell w a x g (by omega)]; exact hg, rest⟩
end Go.Sp
namespace Go.Proofs.YtdlcmpbpdbpanaaGreatDoor
open Go.RowKit Go.Sp
set_option maxHeartbeats 2000000
set_option maxRecDepth 20000

theorem within_1 (D k n : Int) (b l : Value) (g : Nat) (w : World) (hb : w.cell? ⟨g, 0, none⟩ = some (.int .i64 D)) (h1 : 1 ≤ D) (h8 : D ≤ 8)
    (hf : ∀ w', Up w w' → Calls Tryz.prog 232 #[itm k n b l, .int .i64 (D - 1)] w' fun e w'' => e = .returned (.bool true) ∧ Up w' w'') :
    Calls Tryz.prog 252 #[itm k n b l, .pointer (some ⟨g, 0, none⟩)] w fun e w' => e = .returned (.bool false) ∧ Up w w' := by
  have HF := hid hf
  clear hf
  go_enter Tryz.func252, Tryz.ntmps252
  have lg := cell_in hb
  go_wp2_with fail
  refine (HF.out _ ((Up.refl w).alloc _)).mono ?_
  rintro e w1 ⟨rfl, hU1⟩
  go_wp2
  go_ret
  exact ⟨rfl, ((Up.refl w).alloc _).trans hU1⟩

theorem IndexFuncQ (c : Value) (ess : List (List Int)) (R : Int → Int → Value → Value → List Int → Prop) (v : Value) (w : World) (hv : ItmRow R w v ess)
    (hf : ∀ k n b l es, R k n b l es → ∀ w', Up w w' → Calls Tryz.prog 252 #[itm k n b l, c] w' fun e w'' => e = .returned (.bool false) ∧ Up w' w'') :
    Calls Tryz.prog 260 #[v, .func (.func 252) #[] #[c]] w fun e w' => e = .returned (.int .i64 (-1)) ∧ Up w w' := by
  have HF := hid hf
  clear hf
  obtain ⟨a, cap, rfl, hc, hc63, _, hi⟩ := hv
  obtain ⟨m, hm⟩ : ∃ m, ess.length = m := ⟨_, rfl⟩
  rw [hm] at hc hi
  rw [hm]
  have HI := hid hi
  clear hi hm
  go_enter Tryz.func260, Tryz.ntmps260
  go_wp2_with fail
  go_loopw [8] (fun vi wr => ∃ i : Nat, i ≤ m ∧ vi = .int .i64 i ∧ Hid (Up w wr)) (fun vi _ => m - (intOf vi).toNat)
  case atStart => exact ⟨0, by omega, rfl, hid (Up.refl _)⟩
  case round =>
    obtain ⟨i, him, rfl, HU⟩ := hrel
    by_cases hl : i < m
    · obtain ⟨b, off, k, n, vb, vl, rfl, hc, hr⟩ := HI.out i hl
      obtain ⟨c0, c1, c2, c3⟩ := hc.up HU.out
      have HE := hid (HF.out k n vb vl _ hr)
      clear hc hr
      go_wp2_with fail
      refine (HE.out _ HU.out).mono ?_
      rintro e w2 ⟨rfl, hU2⟩
      have HU2 := hid (HU.out.trans hU2)
      clear hU2 c0 c1 c2 c3 HE
      go_wp2_with fail
      go_roundw
      case rel => exact ⟨i + 1, by omega, by go_num, HU2⟩
      case measure => simp [intOf]; omega
    · have hl2 : decide (i < m) = false := by simpa using hl
      go_wp2
      go_ret
      exact ⟨rfl, HU.out⟩

theorem ContainsFuncQ (c : Value) (ess : List (List Int)) (R : Int → Int → Value → Value → List Int → Prop) (v : Value) (w : World) (hv : ItmRow R w v ess)
    (hf : ∀ k n b l es, R k n b l es → ∀ w', Up w w' → Calls Tryz.prog 252 #[itm k n b l, c] w' fun e w'' => e = .returned (.bool false) ∧ Up w' w'') :
    Calls Tryz.prog 251 #[v, .func (.func 252) #[] #[c]] w fun e w' => e = .returned (.bool false) ∧ Up w w' := by
  have HI := hid (IndexFuncQ c ess R v w hv hf)
  clear hf hv
  go_enter Tryz.func251, Tryz.ntmps251
  go_wp2_with fail
  refine HI.out.mono ?_
  rintro e w2 ⟨rfl, hU2⟩
  go_wp2
  go_ret
  exact ⟨rfl, hU2⟩

theorem within_list (D : Int) (v : Value) (ess : List (List Int)) (R : Int → Int → Value → Value → List Int → Prop) (w : World) (h1 : 1 ≤ D) (h8 : D ≤ 8) (hl : ess.length ≤ 1000) (hv : ItmRow R w v ess)
    (hf : ∀ k n b l es, R k n b l es → ∀ w', Up w w' → Calls Tryz.prog 232 #[itm k n b l, .int .i64 (D - 1)] w' fun e w'' => e = .returned (.bool true) ∧ Up w' w'') :
    Calls Tryz.prog 232 #[itm 3 0 nilS v, .int .i64 D] w fun e w' => e = .returned (.bool true) ∧ Up w w' := by
  have HF := hid hf
  have HV := hid hv
  obtain ⟨a, cap, rfl, hc, hc63, _, _⟩ := hv
  obtain ⟨m, hm⟩ : ∃ m, ess.length = m := ⟨_, rfl⟩
  rw [hm] at HV hl hc
  rw [hm]
  have d1 : decide (D > 0) = true := by simp; omega
  have d2 : decide ((m : Int) ≤ 1000) = true := by simp; omega
  clear hf hm
  go_enter Tryz.func232, Tryz.ntmps232
  go_wp2_with fail
  have hg : ((w.alloc (.cells #[.int .i64 3, .int .i64 0, nilS, .slice a m cap] 152)).alloc (.cells #[.int .i64 D] 3)).cell? ⟨w.heap.size + 1, 0, none⟩ = some (.int .i64 D) := (Blk.new (cs := #[.int .i64 D]) (t := 3) (w := w.alloc (.cells #[.int .i64 3, .int .i64 0, nilS, .slice a m cap] 152)) (by simp) rfl).val rfl
  have HG := hid hg
  clear hg
  refine (ContainsFuncQ (.pointer (some ⟨w.heap.size + 1, 0, none⟩)) ess R _ _ (HV.out.up (((Up.refl w).alloc _).alloc _) fun _ _ _ _ _ h => h) (fun k n b l es hr w' hU => within_1 D k n b l _ w' (by rw [hU.cell (cell_in HG.out)]; exact HG.out) h1 h8 fun w'' hU2 => HF.out k n b l es hr w'' ((((Up.refl w).alloc _).alloc _).trans (hU.trans hU2)))).mono ?_
  rintro e w1 ⟨rfl, hU1⟩
  go_wp2
  go_ret
  exact ⟨rfl, (((Up.refl w).alloc _).alloc _).trans hU1⟩

theorem within_leaf (D k n : Int) (b l : Value) (es : List Int) (w : World) (h : Leaf w k n b l es) :
    Calls Tryz.prog 232 #[itm k n b l, .int .i64 D] w fun e w' => e = .returned (.bool true) ∧ Up w w' := by
  rcases h with ⟨rfl, rfl, rfl, _⟩ | ⟨rfl, rfl, rfl, xs, h, _⟩
  · go_enter Tryz.func232, Tryz.ntmps232
    go_wp2
    go_ret
    exact ⟨rfl, ((Up.refl w).alloc _).alloc _⟩
  · obtain ⟨a, cap, rfl, _⟩ := h
    go_enter Tryz.func232, Tryz.ntmps232
    go_wp2
    go_ret
    exact ⟨rfl, ((Up.refl w).alloc _).alloc _⟩

theorem within_ok : ∀ (d : Nat) (D k n : Int) (b l : Value) (es : List Int) (w : World), (d : Int) ≤ D → D ≤ 8 → ItmAt w d k n b l es →
    Calls Tryz.prog 232 #[itm k n b l, .int .i64 D] w fun e w' => e = .returned (.bool true) ∧ Up w w'
  | 0, D, k, n, b, l, es, w, _, _, h => within_leaf D k n b l es w h
  | d + 1, D, k, n, b, l, es, w, h1, h8, h => by
    rcases h with h | ⟨rfl, rfl, rfl, ess, hl, hr, _⟩
    · exact within_leaf D k n b l es w h
    · exact within_list D l ess _ w (by omega) h8 hl hr fun k n b l es h w' hU => within_ok d (D - 1) k n b l es w' (by omega) (by omega) (h.up hU)

theorem encValid_ok {d : Nat} {k n : Int} {b l : Value} {es : List Int} {w : World} (h : ItmAt w d k n b l es) (hd : d ≤ 8) :
    Calls Tryz.prog 198 #[itm k n b l] w fun e w' => e = .returned (.bool true) ∧ Up w w' := by
  have HW := hid (fun w' (hU : Up w w') => within_ok d 8 k n b l es w' (by omega) (by omega) (h.up hU))
  clear h
  go_enter Tryz.func198, Tryz.ntmps198
  go_wp2_with fail
  refine (HW.out _ ((Up.refl w).alloc _)).mono ?_
  rintro e w1 ⟨rfl, hU1⟩
  go_wp2
  go_ret
  exact ⟨rfl, ((Up.refl w).alloc _).trans hU1⟩

theorem beL_snoc (size : Nat) (n : Int) (i : Nat) (hi : i < size) : (beL size n).take (i + 1) = (beL size n).take i ++ [n / 2 ^ (8 * (size - 1 - i)) % 256] := by
  rw [List.take_add_one]
  congr 1
  have : i < (beL size n).length := by rw [beL_length]; exact hi
  rw [List.getElem?_eq_getElem this]
  simp [beL]
end Go.Proofs.YtdlcmpbpdbpanaaGreatDoor
