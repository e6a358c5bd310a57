/- Slices of integers that the call itself makes. Plain facts on sorted lists of integers. -/
import Derived.Test.YtdlcmpbpdbpanaaGreatDoorMUnlinkExplains7
import Derived.Sort.OwnSortedInts
namespace Go.Proofs.YtdlcmpbpdbpanaaGreatDoor
open Go.RowKit Go.Sp Go.Sort
set_option maxHeartbeats 400000

theorem infoInt : (Tryz.prog.info? 3).map (fun i => (i.zero, i.size, i.bytes)) = some (some (.int .i64 0), 1, 8) := by kernel_rfl

/-- The slice v is the call's own, and holds just these integers. -/
def OwnI (w : World) (base : Nat) (v : Value) (xs : List Int) : Prop := w.ownsRow base 3 1 v xs.length (xs.map (Value.int .i64))

theorem OwnI.ints {w : World} {base : Nat} {v : Value} {xs : List Int} (h : OwnI w base v xs) : IntsAt w v xs := by
  rcases h.2 with ⟨hv, hn⟩ | ⟨g, cap, cur, rfl, hb, hg, hn, hm, hs, ht⟩
  · exact ⟨by omega, none, 0, by rw [hv, hn], fun hne => absurd (List.length_eq_zero_iff.1 hn) hne⟩
  · refine ⟨by unfold maxLen at hm; omega, _, cap, rfl, fun _ => ⟨g, 0, rfl, fun i hi => ?_⟩⟩
    rw [Nat.zero_add, World.ownsRow.cellAt h i (by omega)]
    simp [hi]

theorem OwnI.grown {w w' : World} {base : Nat} {v : Value} {xs : List Int} {row : Option Nat} (h : OwnI w base v xs) (hg : w.grownBy w' row) (hne : v.ownBlock = none ∨ v.ownBlock ≠ row) : OwnI w' base v xs :=
  World.ownsRow.kept h hg hne

theorem ownsRow_up {w w' : World} {base e size n : Nat} {v : Value} {xs : List Value} (h : w.ownsRow base e size v n xs) (hU : Up w w') : w'.ownsRow base e size v n xs := by
  refine ⟨h.1, ?_⟩
  rcases h.2 with hn | ⟨g, cap, cur, rfl, hb, hgg, rest⟩
  · exact .inl hn
  · refine .inr ⟨g, cap, cur, rfl, hb, ?_, rest⟩
    rw [hU.block (Array.getElem?_eq_some_iff.1 hgg).1]
    exact hgg

theorem OwnI.up {w w' : World} {base : Nat} {v : Value} {xs : List Int} (h : OwnI w base v xs) (hU : Up w w') : OwnI w' base v xs := ownsRow_up h hU

theorem OwnI.mono {w : World} {base base' : Nat} {v : Value} {xs : List Int} (h : OwnI w base v xs) (hb : base' ≤ base) : OwnI w base' v xs := by
  refine ⟨h.1, ?_⟩
  rcases h.2 with hn | ⟨g, cap, cur, rfl, hb2, rest⟩
  · exact .inl hn
  · exact .inr ⟨g, cap, cur, rfl, by omega, rest⟩

theorem up_grown {w w' w'' : World} {row : Option Nat} (h : Up w w') (hg : w'.grownBy w'' row) (hr : ∀ k, row = some k → w.heap.size ≤ k) : Up w w'' := Below.grown h hg h.size hr

/-- The numbers in order. -/
def isort (xs : List Int) : List Int := xs.mergeSort fun x y => decide (x ≤ y)

theorem isort_length (xs : List Int) : (isort xs).length = xs.length := List.length_mergeSort xs

/-- The cells of a list that is filled from the left. -/
def filled (f : Nat → Int) (n i : Nat) : List Value := (List.range n).map fun j => Value.int .i64 (if j < i then f j else 0)

theorem filled_set (f : Nat → Int) (n i : Nat) : (filled f n i).set i (.int .i64 (f i)) = filled f n (i + 1) := by
  apply List.ext_getElem
  · simp [filled]
  · intro j h1 h2
    simp only [filled, List.getElem_set, List.getElem_map, List.getElem_range]
    split
    · rename_i h; subst h; simp
    · rename_i h
      have : (j < i + 1) = (j < i) := by simp; omega
      simp [this]

theorem filled_zero (f : Nat → Int) (n : Nat) : (madeCells #[Value.int .i64 0] n).toList = filled f n 0 := by
  apply List.ext_getElem
  · simp [filled, madeCells]
  · intro j h1 h2
    simp [filled, madeCells, Nat.mod_one]

theorem filled_all (f : Nat → Int) (n : Nat) : filled f n n = ((List.range n).map f).map (Value.int .i64) := by
  apply List.ext_getElem
  · simp [filled]
  · intro j h1 h2
    simp [filled] at h1 ⊢
    intro h; omega

/-- The powers of G, from that by 0 on. -/
def powList (P G : Int) (n : Nat) : List Int := (List.range n).map fun i => pw G i P

def ElemOut (P Q G : Int) (w : World) (e : Ending) (w' : World) : Prop :=
  ∃ v, e = .returned (.tuple #[v, .int .i64 0]) ∧ OwnI w' w.heap.size v (isort (powList P G Q.toNat)) ∧ Up w w'

end Go.Proofs.YtdlcmpbpdbpanaaGreatDoor
namespace Go.Proofs.YtdlcmpbpdbpanaaGreatDoor
open Go.Sp

theorem isort_perm (xs : List Int) : (isort xs).Perm xs := List.mergeSort_perm _ _

theorem isort_sorted (xs : List Int) : (isort xs).Pairwise (· ≤ ·) :=
  (List.pairwise_mergeSort (le := fun x y : Int => decide (x ≤ y)) (fun _ _ _ h1 h2 => by simp at *; omega) (fun _ _ => by simp; omega) xs).imp (fun h => by simpa using h)

theorem sorted_eq {xs ys : List Int} (h1 : xs.Pairwise (· ≤ ·)) (h2 : ys.Pairwise (· ≤ ·)) (h : xs.Perm ys) : xs = ys :=
  List.Perm.eq_of_pairwise (fun _ _ _ _ h3 h4 => Int.le_antisymm h3 h4) h1 h2 h

theorem isort_eq {xs ys : List Int} (h2 : ys.Pairwise (· ≤ ·)) (h : xs.Perm ys) : isort xs = ys :=
  sorted_eq (isort_sorted xs) h2 ((isort_perm xs).trans h)

theorem isort_small : isort (powList 23 4 (11 : Int).toNat) = [1, 2, 3, 4, 6, 8, 9, 12, 13, 16, 18] :=
  isort_eq (by decide) (by decide +kernel)
end Go.Proofs.YtdlcmpbpdbpanaaGreatDoor
