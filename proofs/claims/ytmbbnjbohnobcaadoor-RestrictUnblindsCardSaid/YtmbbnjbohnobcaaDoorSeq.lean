/- Slices of numbers of any kind: read, owned, appended to. Over any program. -/
import Derived.Test.YtmbbnjbohnobcaaDoorBase
import Derived.Laws.AppendOwnNone
import Derived.Laws.OwnMore
import Derived.Laws.CopyOwn
namespace Go.Sp
open Go.RowKit

theorem cell_in {w : World} {b o : Nat} {v : Value} (h : w.cell? ⟨b, o, none⟩ = some v) : b < w.heap.size := by
  unfold World.cell? at h
  split at h
  · rename_i h1; exact (Array.getElem?_eq_some_iff.1 h1).1
  · cases h

/-- The slice v holds just these numbers. -/
def SeqAt (k : IntKind) (w : World) (v : Value) (xs : List Int) : Prop :=
  ∃ a cap, v = .slice a xs.length cap ∧ xs.length ≤ cap ∧ cap ≤ 9223372036854775807 ∧ (a = none → cap = 0) ∧ (xs ≠ [] → ∃ b off, a = some ⟨b, off, none⟩ ∧ ∀ i, i < xs.length → w.cell? ⟨b, off + i, none⟩ = some (.int k (xs.getD i 0)))

/-- The slice v is the call's own, and holds just these numbers. -/
def OwnS (e : TypeId) (k : IntKind) (w : World) (base : Nat) (v : Value) (xs : List Int) : Prop := w.ownsRow base e 1 v xs.length (xs.map (Value.int k))

section
variable {k : IntKind} {e : TypeId} {w w' : World} {base : Nat} {v : Value} {xs ys : List Int}

theorem SeqAt.up (h : SeqAt k w v xs) (hU : Up w w') : SeqAt k w' v xs := by
  obtain ⟨a, cap, h2, hle, hmx, hn, h3⟩ := h
  refine ⟨a, cap, h2, hle, hmx, hn, fun hne => ?_⟩
  obtain ⟨b, off, ha, hc⟩ := h3 hne
  exact ⟨b, off, ha, fun i hi => by rw [hU.cell (cell_in (hc i hi))]; exact hc i hi⟩

theorem SeqAt.shape (h : SeqAt k w v xs) : ∃ a cap, v = .slice a xs.length cap ∧ xs.length ≤ cap ∧ cap ≤ 9223372036854775807 := by
  obtain ⟨a, cap, h2, h3, h4, _⟩ := h
  exact ⟨a, cap, h2, h3, h4⟩

theorem SeqAt.len (h : SeqAt k w v xs) : xs.length ≤ 9223372036854775807 := by
  obtain ⟨a, cap, h2, h3, h4, _⟩ := h
  omega

theorem SeqAt.cell (h : SeqAt k w v xs) {i : Nat} (hi : i < xs.length) : ∃ b off cap, v = .slice (some ⟨b, off, none⟩) xs.length cap ∧ w.cell? ⟨b, off + i, none⟩ = some (.int k (xs.getD i 0)) := by
  obtain ⟨a, cap, h2, _, _, _, h3⟩ := h
  obtain ⟨b, off, ha, hc⟩ := h3 (by rintro rfl; simp at hi)
  exact ⟨b, off, cap, by rw [h2, ha], hc i hi⟩

theorem seq_none : SeqAt k w (.slice none 0 0) [] := ⟨none, 0, rfl, Nat.le_refl _, by omega, fun _ => rfl, fun h => absurd rfl h⟩
theorem seq_zero (a : Addr) (c : Nat) (hc : c ≤ 9223372036854775807) : SeqAt k w (.slice (some a) 0 c) [] := ⟨some a, c, rfl, by simp, hc, (fun h => by cases h), fun h => absurd rfl h⟩

/-- A block that is known whole is read as a slice. -/
theorem seq_block {b : Nat} {cs : Array Value} {t : TypeId} {fr : Nat × Nat} (hb : w.heap[b]? = some (.cells cs t fr)) (xs : List Int) (lo n c : Nat) (hl : xs.length = n) (hnc : n ≤ c) (h63 : c ≤ 9223372036854775807) (hcs : ∀ i, i < n → cs[lo + i]? = some (.int k (xs.getD i 0))) :
    SeqAt k w (.slice (some ⟨b, lo, none⟩) n c) xs := by
  subst hl
  refine ⟨_, c, rfl, hnc, h63, (fun h => by cases h), fun _ => ⟨b, lo, rfl, fun i hi => ?_⟩⟩
  simp [World.cell?, hb]
  exact hcs i hi

theorem seq_new (w : World) (x : Int) (t : TypeId) : SeqAt k (w.alloc (.cells #[.int k x] t)) (.slice (some ⟨w.heap.size, 0, none⟩) 1 1) [x] :=
  seq_block (heap_alloc_new w _) [x] 0 1 1 rfl (by decide) (by decide) fun i hi => by
    obtain rfl : i = 0 := by omega
    rfl

/-- A part of a slice. -/
theorem SeqAt.sub {b off n cap lo hi c : Nat} (h : SeqAt k w (.slice (some ⟨b, off, none⟩) n cap) xs) (h1 : lo ≤ hi) (h2 : hi ≤ n) (h3 : hi - lo ≤ c) (h4 : c ≤ 9223372036854775807) : SeqAt k w (.slice (some ⟨b, off + lo, none⟩) (hi - lo) c) ((xs.drop lo).take (hi - lo)) := by
  obtain ⟨a, cap', hv, _, _, _, hc⟩ := h
  simp only [Value.slice.injEq] at hv
  obtain ⟨ha, hn, _⟩ := hv
  have hlen : ((xs.drop lo).take (hi - lo)).length = hi - lo := by simp; omega
  refine ⟨_, c, by rw [hlen], by omega, h4, (fun h => by cases h), fun hne => ⟨b, off + lo, rfl, fun i hi' => ?_⟩⟩
  have hi2 : lo + i < xs.length := by omega
  obtain ⟨b', off', ha', hc'⟩ := hc (by rintro rfl; simp at hi2)
  rw [← ha] at ha'
  simp at ha'
  obtain ⟨rfl, rfl⟩ := ha'
  have := hc' (lo + i) hi2
  rw [show off + (lo + i) = off + lo + i by omega] at this
  rw [this]
  have h5 : i < hi - lo := by omega
  simp [h5]

theorem SeqAt.front {a : Option Addr} {n cap m : Nat} (h : SeqAt k w (.slice a n cap) xs) (h2 : m ≤ n) : SeqAt k w (.slice a m cap) (xs.take m) := by
  obtain ⟨a', cap', hv, h3, h4, h5, hc⟩ := h
  simp only [Value.slice.injEq] at hv
  obtain ⟨rfl, hn, rfl⟩ := hv
  have hlen : (xs.take m).length = m := by simp; omega
  refine ⟨a, cap, by rw [hlen], by omega, h4, h5, fun hne => ?_⟩
  obtain ⟨b, off, ha, hcell⟩ := hc (by rintro rfl; simp at hne)
  refine ⟨b, off, ha, fun i hi => ?_⟩
  have hi2 : i < m := by omega
  rw [hcell i (by omega)]
  simp [hi2]

theorem SeqAt.back {b off n cap lo : Nat} (h : SeqAt k w (.slice (some ⟨b, off, none⟩) n cap) xs) (h2 : lo ≤ n) : SeqAt k w (.slice (some ⟨b, off + lo, none⟩) (n - lo) (cap - lo)) (xs.drop lo) := by
  obtain ⟨a', cap', hv, h3, h4, h5, hc⟩ := h
  simp only [Value.slice.injEq] at hv
  obtain ⟨rfl, hn, rfl⟩ := hv
  have hlen : (xs.drop lo).length = n - lo := by simp; omega
  refine ⟨_, cap - lo, by rw [hlen], by omega, by omega, (fun h => by cases h), fun hne => ?_⟩
  obtain ⟨b', off', ha, hcell⟩ := hc (by rintro rfl; simp at hne)
  simp at ha
  obtain ⟨rfl, rfl⟩ := ha
  refine ⟨b, off + lo, rfl, fun i hi => ?_⟩
  have := hcell (lo + i) (by omega)
  rw [show off + lo + i = off + (lo + i) by omega, this]
  simp

theorem own_none : OwnS e k w base (.slice none 0 0) [] := ⟨by simp, .inl ⟨rfl, rfl⟩⟩

theorem OwnS.seq (h : OwnS e k w base v xs) : SeqAt k w v xs := by
  rcases h.2 with ⟨hv, hn⟩ | ⟨g, cap, cur, rfl, hb, hg, hn, hm, hs, ht⟩
  · exact ⟨none, 0, by rw [hv, hn], by omega, by omega, fun _ => rfl, fun hne => absurd (List.length_eq_zero_iff.1 hn) hne⟩
  · refine ⟨_, cap, rfl, hn, by unfold maxLen at hm; omega, (fun h => by cases h), fun _ => ⟨g, 0, rfl, fun i hi => ?_⟩⟩
    rw [Nat.zero_add, World.ownsRow.cellAt h i (by omega)]
    simp [hi]

theorem OwnS.shape (h : OwnS e k w base v xs) : ∃ p cap, v = .slice p xs.length cap ∧ xs.length ≤ cap ∧ cap ≤ 9223372036854775807 := h.seq.shape

theorem ownsRow_later {size n : Nat} {us : List Value} (h : w.ownsRow base e size v n us) (hU : Up w w') : w'.ownsRow base e size v n us := by
  refine ⟨h.1, ?_⟩
  rcases h.2 with hn | ⟨g, cap, cur, rfl, hb, hgg, rest⟩
  · exact .inl hn
  · refine .inr ⟨g, cap, cur, rfl, hb, ?_, rest⟩
    rw [hU.block (Array.getElem?_eq_some_iff.1 hgg).1]
    exact hgg

theorem OwnS.up (h : OwnS e k w base v xs) (hU : Up w w') : OwnS e k w' base v xs := ownsRow_later h hU

theorem OwnS.mono {base' : Nat} (h : OwnS e k w base v xs) (hb : base' ≤ base) : OwnS e k w base' v xs := by
  refine ⟨h.1, ?_⟩
  rcases h.2 with hn | ⟨g, cap, cur, rfl, hb2, rest⟩
  · exact .inl hn
  · exact .inr ⟨g, cap, cur, rfl, by omega, rest⟩

theorem OwnS.block (h : OwnS e k w base v xs) (j : Nat) (hj : v.ownBlock = some j) : base ≤ j := by
  rcases h.2 with ⟨hv, _⟩ | ⟨g, cap, cur, rfl, hb, _⟩
  · rw [hv] at hj; cases hj
  · simp [Value.ownBlock] at hj; omega

theorem OwnS.grown {row : Option Nat} (h : OwnS e k w base v xs) (hg : w.grownBy w' row) (hne : v.ownBlock = none ∨ v.ownBlock ≠ row) : OwnS e k w' base v xs :=
  World.ownsRow.kept h hg hne

/-- What was there when the call began is there behind an append to the call's own. -/
theorem Up.own {w0 : World} (hU : Up w0 w) (h : OwnS e k w base v xs) (hg : w.grownBy w' v.ownBlock) (hb : w0.heap.size ≤ base) : Up w0 w' :=
  Below.grown hU hg hU.size fun j hj => Nat.le_trans hb (h.block j hj)

theorem below_own (h : OwnS e k w base v xs) (hg : w.grownBy w' v.ownBlock) (hb : base ≤ w.heap.size) : Below base w w' :=
  Below.grown (Below.refl base w) hg hb fun j hj => h.block j hj

theorem SeqAt.below {B : Nat} (h : SeqAt k w v xs) (hb : Below B w w') (ha : ∀ b off n c, v = .slice (some ⟨b, off, none⟩) n c → b < B) : SeqAt k w' v xs := by
  obtain ⟨a, cap, h2, hle, hmx, hn, h3⟩ := h
  refine ⟨a, cap, h2, hle, hmx, hn, fun hne => ?_⟩
  obtain ⟨b, off, rfl, hc⟩ := h3 hne
  exact ⟨b, off, rfl, fun i hi => by rw [hb.cell (show (⟨b, off + i, none⟩ : Addr).block < B from ha _ _ _ _ h2)]; exact hc i hi⟩

theorem SeqAt.inside {b off n c : Nat} (h : SeqAt k w (.slice (some ⟨b, off, none⟩) n c) xs) (hne : xs ≠ []) : b < w.heap.size := by
  obtain ⟨a, cap, h2, _, _, _, h3⟩ := h
  obtain ⟨b', off', ha, hc⟩ := h3 hne
  simp only [Value.slice.injEq] at h2
  rw [ha] at h2
  simp at h2
  have := hc 0 (List.length_pos_iff.2 hne)
  rw [← h2.1.1] at this
  exact cell_in this

end

/-- append(v, u...) onto the call's own: at the operation of a walk. -/
theorem wp_app {P : Program} {e t : TypeId} {k : IntKind} {bytes : Nat} (hI : (P.info? e).map (fun i => (i.zero, i.size, i.bytes)) = some (some (.int k 0), 1, bytes)) (ht : P.underlying t = some (.slice e)) (hby : bytes ≤ 8)
    {ops : Array Oper} {rest : List Oper} {o : Oper} {a : Act} {w : World} {Q : Exit → Act → World → Prop} (hgd : o.guard = none) (s x : Operand)
    (ho : o.op = .call { callee := .builtin .append, args := #[s, x], argTypes := #[t, t] })
    (base : Nat) {v u : Value} {xs ys : List Int} (hs : a.eval s = v) (hx : a.eval x = u) (hown : OwnS e k w base v xs) (hsrc : SeqAt k w u ys) (hroom : xs.length + ys.length ≤ 17592186044416) (hbase : base ≤ w.heap.size)
    (h : ∀ v' w', OwnS e k w' base v' (xs ++ ys) → w.grownBy w' v.ownBlock → wpList P ops Q rest (a.put o.dst v') w') : wpList P ops Q (o :: rest) a w := by
  obtain ⟨i0, hi, hz0, hz1, hz2⟩ := info_parts hI
  obtain ⟨ad, cap, rfl, _, _, hcap, hc⟩ := hsrc
  have hown' : w.ownsRow base e 1 v xs.length (xs.map (Value.int k)) := hown
  by_cases hne : ys = []
  · subst hne
    cases ad with
    | none =>
      have hcap := hcap rfl
      subst hcap
      refine wpList_append_own_none hgd s x t ho base e i0 1 ht hi v xs.length _ hs hown' hx ?_
      have := h v w (by rw [List.append_nil]; exact hown) (World.grownBy.refl _ _)
      exact this
    | some ad =>
      refine wpList_append_own w hgd s x t ho base e i0 (.int k 0) 1 bytes ht hi hz0 hz1 hz2 rfl (by decide) v xs.length _ hs hown' ad 0 cap [] hx rfl (fun j u hj => by simp at hj) (fun u hu => by cases hu) (by unfold maxLen; omega) (by
        have := Nat.mul_le_mul (show xs.length + 0 ≤ 17592186044416 by simp at hroom; omega) hby
        omega) hbase fun v' w' h1 h2 _ => h v' w' (by
          unfold OwnS
          rw [List.append_nil]
          simpa using h1) h2
  · obtain ⟨b, off, rfl, hcell⟩ := hc hne
    refine wpList_append_own w hgd s x t ho base e i0 (.int k 0) 1 bytes ht hi hz0 hz1 hz2 rfl (by decide) v xs.length _ hs hown' ⟨b, off, none⟩ ys.length cap (ys.map (Value.int k)) hx (by simp) (fun j u hj => by
        simp only [List.getElem?_map, Option.map_eq_some_iff] at hj
        obtain ⟨y, hy, rfl⟩ := hj
        have hj2 : j < ys.length := (List.getElem?_eq_some_iff.1 hy).1
        have := hcell j hj2
        rw [Addr.add_lit, this]
        simp [hy]) (ints_oneCell _ _) (by unfold maxLen; omega) (by
        have := Nat.mul_le_mul hroom hby
        omega) hbase fun v' w' h1 h2 _ => h v' w' (by
          unfold OwnS
          rw [List.length_append, List.map_append]
          exact h1) h2

end Go.Sp
