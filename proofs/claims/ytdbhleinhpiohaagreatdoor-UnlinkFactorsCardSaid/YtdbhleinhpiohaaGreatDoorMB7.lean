/- Slices of integers that the call itself makes. Plain facts on sorted lists of integers. The examples of layer 10. The examples of layer 15; the reference's bases and commitments. Slices of numbers of any kind: read, owned, appended to. Over any program. -/
import Derived.Test.YtdbhleinhpiohaaGreatDoorMB3
import Derived.Test.YtdbhleinhpiohaaGreatDoorMB6
import Derived.Test.YtdbhleinhpiohaaGreatDoorMB1
import Derived.Sort.OwnSortedInts
import Derived.LoopN
import Derived.Deep.RegionWith
import Derived.Laws.AppendOwnNone
import Derived.Laws.OwnMore
import Derived.Laws.CopyOwn
namespace Go.Proofs.YtdbhleinhpiohaaGreatDoor
open Go.RowKit Go.Sp Go.Sort
set_option maxHeartbeats 400000

theorem infoInt : (Tryz.prog.info? 3).map (fun i => (i.zero, i.size, i.bytes)) = some (some (.int .i64 0), 1, 8) := by kernel_rfl

/-- The slice v is the call's own, and holds just these integers. -/
def OwnI (w : World) (base : Nat) (v : Value) (xs : List Int) : Prop := w.ownsRow base 3 1 v xs.length (xs.map (Value.int .i64))

theorem OwnI.ints {w : World} {base : Nat} {v : Value} {xs : List Int} (h : OwnI w base v xs) : IntsAt w v xs := by
  rcases h.2 with ⟨hv, hn⟩ | ⟨g, cap, cur, rfl, hb, hg, hn, hm, hs, ht⟩
  · exact ⟨by omega, none, 0, by rw [hv, hn], fun hne => absurd (List.length_eq_zero_iff.1 hn) hne⟩
  · refine ⟨by unfold maxLen at hm; omega, _, cap, rfl, fun _ => ⟨g, 0, rfl, fun i hi => ?_⟩⟩
    rw [Nat.zero_add, World.ownsRow.cellAt h i (by omega)]
    simp [hi]

theorem OwnI.grown {w w' : World} {base : Nat} {v : Value} {xs : List Int} {row : Option Nat} (h : OwnI w base v xs) (hg : w.grownBy w' row) (hne : v.ownBlock = none ∨ v.ownBlock ≠ row) : OwnI w' base v xs :=
  World.ownsRow.kept h hg hne

theorem ownsRow_up {w w' : World} {base e size n : Nat} {v : Value} {xs : List Value} (h : w.ownsRow base e size v n xs) (hU : Up w w') : w'.ownsRow base e size v n xs := by
  refine ⟨h.1, ?_⟩
  rcases h.2 with hn | ⟨g, cap, cur, rfl, hb, hgg, rest⟩
  · exact .inl hn
  · refine .inr ⟨g, cap, cur, rfl, hb, ?_, rest⟩
    rw [hU.block (Array.getElem?_eq_some_iff.1 hgg).1]
    exact hgg

theorem OwnI.up {w w' : World} {base : Nat} {v : Value} {xs : List Int} (h : OwnI w base v xs) (hU : Up w w') : OwnI w' base v xs := ownsRow_up h hU

theorem OwnI.mono {w : World} {base base' : Nat} {v : Value} {xs : List Int} (h : OwnI w base v xs) (hb : base' ≤ base) : OwnI w base' v xs := by
  refine ⟨h.1, ?_⟩
  rcases h.2 with hn | ⟨g, cap, cur, rfl, hb2, rest⟩
  · exact .inl hn
  · exact .inr ⟨g, cap, cur, rfl, by omega, rest⟩

theorem up_grown {w w' w'' : World} {row : Option Nat} (h : Up w w') (hg : w'.grownBy w'' row) (hr : ∀ k, row = some k → w.heap.size ≤ k) : Up w w'' := Below.grown h hg h.size hr

/-- The numbers in order. -/
def isort (xs : List Int) : List Int := xs.mergeSort fun x y => decide (x ≤ y)

theorem isort_length (xs : List Int) : (isort xs).length = xs.length := List.length_mergeSort xs

/-- The cells of a list that is filled from the left. -/
def filled (f : Nat → Int) (n i : Nat) : List Value := (List.range n).map fun j => Value.int .i64 (if j < i then f j else 0)

theorem filled_set (f : Nat → Int) (n i : Nat) : (filled f n i).set i (.int .i64 (f i)) = filled f n (i + 1) := by
  apply List.ext_getElem
  · simp [filled]
  · intro j h1 h2
    simp only [filled, List.getElem_set, List.getElem_map, List.getElem_range]
    split
    · rename_i h; subst h; simp
    · rename_i h
      have : (j < i + 1) = (j < i) := by simp; omega
      simp [this]

theorem filled_zero (f : Nat → Int) (n : Nat) : (madeCells #[Value.int .i64 0] n).toList = filled f n 0 := by
  apply List.ext_getElem
  · simp [filled, madeCells]
  · intro j h1 h2
    simp [filled, madeCells, Nat.mod_one]

theorem filled_all (f : Nat → Int) (n : Nat) : filled f n n = ((List.range n).map f).map (Value.int .i64) := by
  apply List.ext_getElem
  · simp [filled]
  · intro j h1 h2
    simp [filled] at h1 ⊢
    intro h; omega

/-- The powers of G, from that by 0 on. -/
def powList (P G : Int) (n : Nat) : List Int := (List.range n).map fun i => pw G i P

def ElemOut (P Q G : Int) (w : World) (e : Ending) (w' : World) : Prop :=
  ∃ v, e = .returned (.tuple #[v, .int .i64 0]) ∧ OwnI w' w.heap.size v (isort (powList P G Q.toNat)) ∧ Up w w'

end Go.Proofs.YtdbhleinhpiohaaGreatDoor
namespace Go.Proofs.YtdbhleinhpiohaaGreatDoor
open Go.Sp

theorem isort_perm (xs : List Int) : (isort xs).Perm xs := List.mergeSort_perm _ _

theorem isort_sorted (xs : List Int) : (isort xs).Pairwise (· ≤ ·) :=
  (List.pairwise_mergeSort (le := fun x y : Int => decide (x ≤ y)) (fun _ _ _ h1 h2 => by simp at *; omega) (fun _ _ => by simp; omega) xs).imp (fun h => by simpa using h)

theorem sorted_eq {xs ys : List Int} (h1 : xs.Pairwise (· ≤ ·)) (h2 : ys.Pairwise (· ≤ ·)) (h : xs.Perm ys) : xs = ys :=
  List.Perm.eq_of_pairwise (fun _ _ _ _ h3 h4 => Int.le_antisymm h3 h4) h1 h2 h

theorem isort_eq {xs ys : List Int} (h2 : ys.Pairwise (· ≤ ·)) (h : xs.Perm ys) : isort xs = ys :=
  sorted_eq (isort_sorted xs) h2 ((isort_perm xs).trans h)

theorem isort_small : isort (powList 23 4 (11 : Int).toNat) = [1, 2, 3, 4, 6, 8, 9, 12, 13, 16, 18] :=
  isort_eq (by decide) (by decide +kernel)
end Go.Proofs.YtdbhleinhpiohaaGreatDoor
namespace Go.Proofs.YtdbhleinhpiohaaGreatDoor
open Go.RowKit Go.Sp Go.Sort
set_option maxHeartbeats 400000

theorem gv_small : gvB 23 11 4 = true := by decide +kernel

/-- A slice over a block that holds just its elements. -/
theorem ints_blk {w : World} {b cap n : Nat} {xs : List Int} {t : TypeId} {fr : Nat × Nat} (hb : w.heap[b]? = some (.cells (xs.map (Value.int .i64)).toArray t fr)) (hn : n = xs.length) (hl : xs.length ≤ 9223372036854775807) : IntsAt w (.slice (some ⟨b, 0, none⟩) n cap) xs := by
  subst hn
  exact ints_at hl fun i hi => by simp [World.cell?, hb, hi]

end Go.Proofs.YtdbhleinhpiohaaGreatDoor
namespace Go.Proofs.YtdbhleinhpiohaaGreatDoor
open Go.RowKit Go.Sp
set_option maxHeartbeats 2000000
set_option maxRecDepth 20000

theorem ints_four {w : World} {b cap : Nat} {x y z u : Int} (h : w.cell? ⟨b, 0, none⟩ = some (.int .i64 x)) (h1 : w.cell? ⟨b, 1, none⟩ = some (.int .i64 y)) (h2 : w.cell? ⟨b, 2, none⟩ = some (.int .i64 z)) (h3 : w.cell? ⟨b, 3, none⟩ = some (.int .i64 u)) : IntsAt w (.slice (some ⟨b, 0, none⟩) 4 cap) [x, y, z, u] :=
  ints_at (xs := [x, y, z, u]) (by simp) fun i hi => by
    have : i = 0 ∨ i = 1 ∨ i = 2 ∨ i = 3 := by simp at hi; omega
    rcases this with rfl | rfl | rfl | rfl
    · exact h
    · exact h1
    · exact h2
    · exact h3

theorem second_grp {w w1 : World} {o : Obj} {P Q G : Int} (hU : Up ((w.alloc o).alloc (.cells #[.int .i64 P, .int .i64 Q, .int .i64 G] 23)) w1) : GrpAt w1 (w.heap.size + 1) P Q G := by
  have h := box_reads (w := w.alloc o) rfl hU
  simpa using h

theorem rbValid_any (P Q G A B C : Int) (w : World) (hP : -9223372036854775808 ≤ P) (hQ : Q ≤ 9223372036854775807) :
    Calls Tryz.prog 53 #[bas P Q G A B C] w fun e w' => e = .returned (.bool (bvB P Q G A B C)) ∧ Up w w' := by
  have HB : Hid (bvB P Q G A B C = (gvB P Q G && (A != 1) && (B != 1) && (C != 1) && elB P Q A && elB P Q B && elB P Q C)) := hid (by
    simp only [bvB, gnB, List.all_cons, List.all_nil, Bool.and_true]
    cases gvB P Q G <;> cases (A != 1) <;> cases (B != 1) <;> cases (C != 1) <;> cases elB P Q A <;> cases elB P Q B <;> rfl)
  generalize bvB P Q G A B C = X at *
  go_enter Tryz.func53, Tryz.ntmps53
  go_wp2_with fail
  have HA := hid ((bas_reads (o := .cells #[.int .i64 P, .int .i64 Q, .int .i64 G, .int .i64 A, .int .i64 B, .int .i64 C] 25) rfl ((Up.refl (w.alloc _)).alloc (.cells #[.int .i64 P, .int .i64 Q, .int .i64 G] 23))))
  have HG := hid (second_grp (w := w) (o := .cells #[.int .i64 P, .int .i64 Q, .int .i64 G, .int .i64 A, .int .i64 B, .int .i64 C] 25) (P := P) (Q := Q) (G := G) (Up.refl _))
  refine (rValid_any P Q G _ hP hQ).mono ?_
  rintro e w1 ⟨rfl, hU1⟩
  have HA1 := hid (HA.out.up hU1)
  have HG1 := hid (HG.out.up hU1)
  have HU1 := hid ((((Up.refl w).alloc _).alloc _).trans hU1)
  clear hU1 HA HG
  obtain ⟨⟨c0, c1, c2⟩, c3, c4, c5⟩ := HA1.out
  obtain ⟨e0, e1, e2⟩ := HG1.out
  by_cases hg : gvB P Q G = true
  case neg =>
    have hg' : gvB P Q G = false := by simpa using hg
    have hX : X = false := by rw [HB.out, hg']; rfl
    subst hX
    rw [hg']
    clear hg hg'
    go_wp2
    go_ret
    exact ⟨rfl, HU1.out⟩
  have g := gv_iff.1 hg
  have g1 := g.P61
  have g2 := g.P4
  have g3 := g.Q3
  have HB1 : Hid (X = ((A != 1) && (B != 1) && (C != 1) && elB P Q A && elB P Q B && elB P Q C)) := hid (by rw [HB.out, hg]; rfl)
  rw [hg]
  clear hg g HB
  by_cases ha : A = 1
  case pos =>
    have d : (A != 1) = false := by simp [ha]
    have hX : X = false := by rw [HB1.out, d]; rfl
    subst hX
    clear ha
    go_wp2
    go_ret
    exact ⟨rfl, HU1.out⟩
  have da : (A != 1) = true := by simpa using ha
  by_cases hb : B = 1
  case pos =>
    have d : (B != 1) = false := by simp [hb]
    have hX : X = false := by rw [HB1.out, da, d]; rfl
    subst hX
    clear ha hb
    go_wp2
    go_ret
    exact ⟨rfl, HU1.out⟩
  have db : (B != 1) = true := by simpa using hb
  by_cases hc : C = 1
  case pos =>
    have d : (C != 1) = false := by simp [hc]
    have hX : X = false := by rw [HB1.out, da, db, d]; rfl
    subst hX
    clear ha hb hc
    go_wp2
    go_ret
    exact ⟨rfl, HU1.out⟩
  have dc : (C != 1) = true := by simpa using hc
  have HB2 : Hid (X = (elB P Q A && elB P Q B && elB P Q C)) := hid (by rw [HB1.out, da, db, dc]; rfl)
  clear ha hb hc HB1
  go_wp2_with fail
  refine (rMember_any P Q G A _ g1 (by omega) hQ).mono ?_
  rintro e w2 ⟨rfl, hU2⟩
  have HA2 := hid (HA1.out.up hU2)
  have HG2 := hid (HG1.out.up hU2)
  have HU2 := hid (HU1.out.trans hU2)
  clear hU2 c0 c1 c2 c3 c4 c5 e0 e1 e2 HA1 HG1
  obtain ⟨⟨c0, c1, c2⟩, c3, c4, c5⟩ := HA2.out
  obtain ⟨e0, e1, e2⟩ := HG2.out
  by_cases h1 : elB P Q A = true
  case neg =>
    have h1' : elB P Q A = false := by simpa using h1
    have hX : X = false := by rw [HB2.out, h1']; rfl
    subst hX
    rw [h1']
    clear h1 h1'
    go_wp2
    go_ret
    exact ⟨rfl, HU2.out⟩
  have HB3 : Hid (X = (elB P Q B && elB P Q C)) := hid (by rw [HB2.out, h1]; rfl)
  rw [h1]
  clear h1 HB2
  go_wp2_with fail
  refine (rMember_any P Q G B _ g1 (by omega) hQ).mono ?_
  rintro e w3 ⟨rfl, hU3⟩
  have HA3 := hid (HA2.out.up hU3)
  have HG3 := hid (HG2.out.up hU3)
  have HU3 := hid (HU2.out.trans hU3)
  clear hU3 c0 c1 c2 c3 c4 c5 e0 e1 e2 HA2 HG2
  obtain ⟨⟨c0, c1, c2⟩, c3, c4, c5⟩ := HA3.out
  obtain ⟨e0, e1, e2⟩ := HG3.out
  by_cases h2 : elB P Q B = true
  case neg =>
    have h2' : elB P Q B = false := by simpa using h2
    have hX : X = false := by rw [HB3.out, h2']; rfl
    subst hX
    rw [h2']
    clear h2 h2'
    go_wp2
    go_ret
    exact ⟨rfl, HU3.out⟩
  have HB4 : Hid (X = elB P Q C) := hid (by rw [HB3.out, h2]; rfl)
  rw [h2]
  clear h2 HB3
  go_wp2_with fail
  refine (rMember_any P Q G C _ g1 (by omega) hQ).mono ?_
  rintro e w4 ⟨rfl, hU4⟩
  rw [← HB4.out]
  go_wp2
  go_ret
  exact ⟨rfl, HU3.out.trans hU4⟩

end Go.Proofs.YtdbhleinhpiohaaGreatDoor
namespace Go.Sp
open Go.RowKit

theorem cell_in {w : World} {b o : Nat} {v : Value} (h : w.cell? ⟨b, o, none⟩ = some v) : b < w.heap.size := by
  unfold World.cell? at h
  split at h
  · rename_i h1; exact (Array.getElem?_eq_some_iff.1 h1).1
  · cases h

/-- The slice v holds just these numbers. -/
def SeqAt (k : IntKind) (w : World) (v : Value) (xs : List Int) : Prop :=
  ∃ a cap, v = .slice a xs.length cap ∧ xs.length ≤ cap ∧ cap ≤ 9223372036854775807 ∧ (a = none → cap = 0) ∧ (xs ≠ [] → ∃ b off, a = some ⟨b, off, none⟩ ∧ ∀ i, i < xs.length → w.cell? ⟨b, off + i, none⟩ = some (.int k (xs.getD i 0)))

/-- The slice v is the call's own, and holds just these numbers. -/
def OwnS (e : TypeId) (k : IntKind) (w : World) (base : Nat) (v : Value) (xs : List Int) : Prop := w.ownsRow base e 1 v xs.length (xs.map (Value.int k))

section
variable {k : IntKind} {e : TypeId} {w w' : World} {base : Nat} {v : Value} {xs ys : List Int}

theorem SeqAt.up (h : SeqAt k w v xs) (hU : Up w w') : SeqAt k w' v xs := by
  obtain ⟨a, cap, h2, hle, hmx, hn, h3⟩ := h
  refine ⟨a, cap, h2, hle, hmx, hn, fun hne => ?_⟩
  obtain ⟨b, off, ha, hc⟩ := h3 hne
  exact ⟨b, off, ha, fun i hi => by rw [hU.cell (cell_in (hc i hi))]; exact hc i hi⟩

theorem SeqAt.shape (h : SeqAt k w v xs) : ∃ a cap, v = .slice a xs.length cap ∧ xs.length ≤ cap ∧ cap ≤ 9223372036854775807 := by
  obtain ⟨a, cap, h2, h3, h4, _⟩ := h
  exact ⟨a, cap, h2, h3, h4⟩

theorem SeqAt.len (h : SeqAt k w v xs) : xs.length ≤ 9223372036854775807 := by
  obtain ⟨a, cap, h2, h3, h4, _⟩ := h
  omega

theorem SeqAt.cell (h : SeqAt k w v xs) {i : Nat} (hi : i < xs.length) : ∃ b off cap, v = .slice (some ⟨b, off, none⟩) xs.length cap ∧ w.cell? ⟨b, off + i, none⟩ = some (.int k (xs.getD i 0)) := by
  obtain ⟨a, cap, h2, _, _, _, h3⟩ := h
  obtain ⟨b, off, ha, hc⟩ := h3 (by rintro rfl; simp at hi)
  exact ⟨b, off, cap, by rw [h2, ha], hc i hi⟩

theorem seq_none : SeqAt k w (.slice none 0 0) [] := ⟨none, 0, rfl, Nat.le_refl _, by omega, fun _ => rfl, fun h => absurd rfl h⟩
theorem seq_zero (a : Addr) (c : Nat) (hc : c ≤ 9223372036854775807) : SeqAt k w (.slice (some a) 0 c) [] := ⟨some a, c, rfl, by simp, hc, (fun h => by cases h), fun h => absurd rfl h⟩

/-- A block that is known whole is read as a slice. -/
theorem seq_block {b : Nat} {cs : Array Value} {t : TypeId} {fr : Nat × Nat} (hb : w.heap[b]? = some (.cells cs t fr)) (xs : List Int) (lo n c : Nat) (hl : xs.length = n) (hnc : n ≤ c) (h63 : c ≤ 9223372036854775807) (hcs : ∀ i, i < n → cs[lo + i]? = some (.int k (xs.getD i 0))) :
    SeqAt k w (.slice (some ⟨b, lo, none⟩) n c) xs := by
  subst hl
  refine ⟨_, c, rfl, hnc, h63, (fun h => by cases h), fun _ => ⟨b, lo, rfl, fun i hi => ?_⟩⟩
  simp [World.cell?, hb]
  exact hcs i hi

theorem seq_new (w : World) (x : Int) (t : TypeId) : SeqAt k (w.alloc (.cells #[.int k x] t)) (.slice (some ⟨w.heap.size, 0, none⟩) 1 1) [x] :=
  seq_block (heap_alloc_new w _) [x] 0 1 1 rfl (by decide) (by decide) fun i hi => by
    obtain rfl : i = 0 := by omega
    rfl

/-- A part of a slice. -/
theorem SeqAt.sub {b off n cap lo hi c : Nat} (h : SeqAt k w (.slice (some ⟨b, off, none⟩) n cap) xs) (h1 : lo ≤ hi) (h2 : hi ≤ n) (h3 : hi - lo ≤ c) (h4 : c ≤ 9223372036854775807) : SeqAt k w (.slice (some ⟨b, off + lo, none⟩) (hi - lo) c) ((xs.drop lo).take (hi - lo)) := by
  obtain ⟨a, cap', hv, _, _, _, hc⟩ := h
  simp only [Value.slice.injEq] at hv
  obtain ⟨ha, hn, _⟩ := hv
  have hlen : ((xs.drop lo).take (hi - lo)).length = hi - lo := by simp; omega
  refine ⟨_, c, by rw [hlen], by omega, h4, (fun h => by cases h), fun hne => ⟨b, off + lo, rfl, fun i hi' => ?_⟩⟩
  have hi2 : lo + i < xs.length := by omega
  obtain ⟨b', off', ha', hc'⟩ := hc (by rintro rfl; simp at hi2)
  rw [← ha] at ha'
  simp at ha'
  obtain ⟨rfl, rfl⟩ := ha'
  have := hc' (lo + i) hi2
  rw [show off + (lo + i) = off + lo + i by omega] at this
  rw [this]
  have h5 : i < hi - lo := by omega
  simp [h5]

theorem SeqAt.front {a : Option Addr} {n cap m : Nat} (h : SeqAt k w (.slice a n cap) xs) (h2 : m ≤ n) : SeqAt k w (.slice a m cap) (xs.take m) := by
  obtain ⟨a', cap', hv, h3, h4, h5, hc⟩ := h
  simp only [Value.slice.injEq] at hv
  obtain ⟨rfl, hn, rfl⟩ := hv
  have hlen : (xs.take m).length = m := by simp; omega
  refine ⟨a, cap, by rw [hlen], by omega, h4, h5, fun hne => ?_⟩
  obtain ⟨b, off, ha, hcell⟩ := hc (by rintro rfl; simp at hne)
  refine ⟨b, off, ha, fun i hi => ?_⟩
  have hi2 : i < m := by omega
  rw [hcell i (by omega)]
  simp [hi2]

theorem SeqAt.back {b off n cap lo : Nat} (h : SeqAt k w (.slice (some ⟨b, off, none⟩) n cap) xs) (h2 : lo ≤ n) : SeqAt k w (.slice (some ⟨b, off + lo, none⟩) (n - lo) (cap - lo)) (xs.drop lo) := by
  obtain ⟨a', cap', hv, h3, h4, h5, hc⟩ := h
  simp only [Value.slice.injEq] at hv
  obtain ⟨rfl, hn, rfl⟩ := hv
  have hlen : (xs.drop lo).length = n - lo := by simp; omega
  refine ⟨_, cap - lo, by rw [hlen], by omega, by omega, (fun h => by cases h), fun hne => ?_⟩
  obtain ⟨b', off', ha, hcell⟩ := hc (by rintro rfl; simp at hne)
  simp at ha
  obtain ⟨rfl, rfl⟩ := ha
  refine ⟨b, off + lo, rfl, fun i hi => ?_⟩
  have := hcell (lo + i) (by omega)
  rw [show off + lo + i = off + (lo + i) by omega, this]
  simp

theorem own_none : OwnS e k w base (.slice none 0 0) [] := ⟨by simp, .inl ⟨rfl, rfl⟩⟩

theorem OwnS.seq (h : OwnS e k w base v xs) : SeqAt k w v xs := by
  rcases h.2 with ⟨hv, hn⟩ | ⟨g, cap, cur, rfl, hb, hg, hn, hm, hs, ht⟩
  · exact ⟨none, 0, by rw [hv, hn], by omega, by omega, fun _ => rfl, fun hne => absurd (List.length_eq_zero_iff.1 hn) hne⟩
  · refine ⟨_, cap, rfl, hn, by unfold maxLen at hm; omega, (fun h => by cases h), fun _ => ⟨g, 0, rfl, fun i hi => ?_⟩⟩
    rw [Nat.zero_add, World.ownsRow.cellAt h i (by omega)]
    simp [hi]

theorem OwnS.shape (h : OwnS e k w base v xs) : ∃ p cap, v = .slice p xs.length cap ∧ xs.length ≤ cap ∧ cap ≤ 9223372036854775807 := h.seq.shape

theorem ownsRow_later {size n : Nat} {us : List Value} (h : w.ownsRow base e size v n us) (hU : Up w w') : w'.ownsRow base e size v n us := by
  refine ⟨h.1, ?_⟩
  rcases h.2 with hn | ⟨g, cap, cur, rfl, hb, hgg, rest⟩
  · exact .inl hn
  · refine .inr ⟨g, cap, cur, rfl, hb, ?_, rest⟩
    rw [hU.block (Array.getElem?_eq_some_iff.1 hgg).1]
    exact hgg

theorem OwnS.up (h : OwnS e k w base v xs) (hU : Up w w') : OwnS e k w' base v xs := ownsRow_later h hU

theorem OwnS.mono {base' : Nat} (h : OwnS e k w base v xs) (hb : base' ≤ base) : OwnS e k w base' v xs := by
  refine ⟨h.1, ?_⟩
  rcases h.2 with hn | ⟨g, cap, cur, rfl, hb2, rest⟩
  · exact .inl hn
  · exact .inr ⟨g, cap, cur, rfl, by omega, rest⟩

theorem OwnS.block (h : OwnS e k w base v xs) (j : Nat) (hj : v.ownBlock = some j) : base ≤ j := by
  rcases h.2 with ⟨hv, _⟩ | ⟨g, cap, cur, rfl, hb, _⟩
  · rw [hv] at hj; cases hj
  · simp [Value.ownBlock] at hj; omega

theorem OwnS.grown {row : Option Nat} (h : OwnS e k w base v xs) (hg : w.grownBy w' row) (hne : v.ownBlock = none ∨ v.ownBlock ≠ row) : OwnS e k w' base v xs :=
  World.ownsRow.kept h hg hne

/-- What was there when the call began is there behind an append to the call's own. -/
theorem Up.own {w0 : World} (hU : Up w0 w) (h : OwnS e k w base v xs) (hg : w.grownBy w' v.ownBlock) (hb : w0.heap.size ≤ base) : Up w0 w' :=
  Below.grown hU hg hU.size fun j hj => Nat.le_trans hb (h.block j hj)

theorem below_own (h : OwnS e k w base v xs) (hg : w.grownBy w' v.ownBlock) (hb : base ≤ w.heap.size) : Below base w w' :=
  Below.grown (Below.refl base w) hg hb fun j hj => h.block j hj

theorem SeqAt.below {B : Nat} (h : SeqAt k w v xs) (hb : Below B w w') (ha : ∀ b off n c, v = .slice (some ⟨b, off, none⟩) n c → b < B) : SeqAt k w' v xs := by
  obtain ⟨a, cap, h2, hle, hmx, hn, h3⟩ := h
  refine ⟨a, cap, h2, hle, hmx, hn, fun hne => ?_⟩
  obtain ⟨b, off, rfl, hc⟩ := h3 hne
  exact ⟨b, off, rfl, fun i hi => by rw [hb.cell (show (⟨b, off + i, none⟩ : Addr).block < B from ha _ _ _ _ h2)]; exact hc i hi⟩

theorem SeqAt.inside {b off n c : Nat} (h : SeqAt k w (.slice (some ⟨b, off, none⟩) n c) xs) (hne : xs ≠ []) : b < w.heap.size := by
  obtain ⟨a, cap, h2, _, _, _, h3⟩ := h
  obtain ⟨b', off', ha, hc⟩ := h3 hne
  simp only [Value.slice.injEq] at h2
  rw [ha] at h2
  simp at h2
  have := hc 0 (List.length_pos_iff.2 hne)
  rw [← h2.1.1] at this
  exact cell_in this

end

/-- append(v, u...) onto the call's own: at the operation of a walk. -/
theorem wp_app {P : Program} {e t : TypeId} {k : IntKind} {bytes : Nat} (hI : (P.info? e).map (fun i => (i.zero, i.size, i.bytes)) = some (some (.int k 0), 1, bytes)) (ht : P.underlying t = some (.slice e)) (hby : bytes ≤ 8)
    {ops : Array Oper} {rest : List Oper} {o : Oper} {a : Act} {w : World} {Q : Exit → Act → World → Prop} (hgd : o.guard = none) (s x : Operand)
    (ho : o.op = .call { callee := .builtin .append, args := #[s, x], argTypes := #[t, t] })
    (base : Nat) {v u : Value} {xs ys : List Int} (hs : a.eval s = v) (hx : a.eval x = u) (hown : OwnS e k w base v xs) (hsrc : SeqAt k w u ys) (hroom : xs.length + ys.length ≤ 17592186044416) (hbase : base ≤ w.heap.size)
    (h : ∀ v' w', OwnS e k w' base v' (xs ++ ys) → w.grownBy w' v.ownBlock → wpList P ops Q rest (a.put o.dst v') w') : wpList P ops Q (o :: rest) a w := by
  obtain ⟨i0, hi, hz0, hz1, hz2⟩ := info_parts hI
  obtain ⟨ad, cap, rfl, _, _, hcap, hc⟩ := hsrc
  have hown' : w.ownsRow base e 1 v xs.length (xs.map (Value.int k)) := hown
  by_cases hne : ys = []
  · subst hne
    cases ad with
    | none =>
      have hcap := hcap rfl
      subst hcap
      refine wpList_append_own_none hgd s x t ho base e i0 1 ht hi v xs.length _ hs hown' hx ?_
      have := h v w (by rw [List.append_nil]; exact hown) (World.grownBy.refl _ _)
      exact this
    | some ad =>
      refine wpList_append_own w hgd s x t ho base e i0 (.int k 0) 1 bytes ht hi hz0 hz1 hz2 rfl (by decide) v xs.length _ hs hown' ad 0 cap [] hx rfl (fun j u hj => by simp at hj) (fun u hu => by cases hu) (by unfold maxLen; omega) (by
        have := Nat.mul_le_mul (show xs.length + 0 ≤ 17592186044416 by simp at hroom; omega) hby
        omega) hbase fun v' w' h1 h2 _ => h v' w' (by
          unfold OwnS
          rw [List.append_nil]
          simpa using h1) h2
  · obtain ⟨b, off, rfl, hcell⟩ := hc hne
    refine wpList_append_own w hgd s x t ho base e i0 (.int k 0) 1 bytes ht hi hz0 hz1 hz2 rfl (by decide) v xs.length _ hs hown' ⟨b, off, none⟩ ys.length cap (ys.map (Value.int k)) hx (by simp) (fun j u hj => by
        simp only [List.getElem?_map, Option.map_eq_some_iff] at hj
        obtain ⟨y, hy, rfl⟩ := hj
        have hj2 : j < ys.length := (List.getElem?_eq_some_iff.1 hy).1
        have := hcell j hj2
        rw [Addr.add_lit, this]
        simp [hy]) (ints_oneCell _ _) (by unfold maxLen; omega) (by
        have := Nat.mul_le_mul hroom hby
        omega) hbase fun v' w' h1 h2 _ => h v' w' (by
          unfold OwnS
          rw [List.length_append, List.map_append]
          exact h1) h2

end Go.Sp
