/- Commitments: what is given, Commit, Open, Add, Scale, Shift. Commitments: Commit, Open, Add, Scale, Shift; the reference. Slices of integers that the call itself makes. Plain facts on sorted lists of integers. -/
import Derived.Test.YtdlcmpbpdbpanaaGreatDoorMB13
import Derived.Test.YtdlcmpbpdbpanaaGreatDoorMB12
import Derived.Test.YtdlcmpbpdbpanaaGreatDoorMB10
import Derived.Sort.OwnSortedInts
namespace Go.Proofs.YtdlcmpbpdbpanaaGreatDoor
open Go.RowKit Go.Sp
set_option maxHeartbeats 2000000
set_option maxRecDepth 20000

/-- The error of bases, scalars, and elements. -/
def givE (P Q G A B C : Int) (ss es : List Int) : Int :=
  if bvB P Q G A B C = true then (if ss.all (exB Q) = true ∧ es.all (elB P Q) = true then 0 else 2) else 1

theorem all_of {p : Int → Bool} {xs : List Int} (h : ∀ j, j < xs.length → p (xs.getD j 0) = true) : xs.all p = true := by
  rw [List.all_eq_true]
  intro x hx
  obtain ⟨j, hj, rfl⟩ := List.getElem_of_mem hx
  have := h j hj
  simpa [hj] using this

/-- The commitment to m with r. -/
def comV (P Q G C m r : Int) : Int := gpw P Q G m * gpw P Q C r % P

theorem com_prV {P Q G A B C m r : Int} (hb : bvB P Q G A B C = true) (hm : exB Q m = true) (hr : exB Q r = true) : prE P Q G [G, C] [m, r] = 0 ∧ prV P Q G [G, C] [m, r] = comV P Q G C m r := by
  obtain ⟨hg, _, _, _, hc⟩ := bv_iff.1 hb
  have g := gv_iff.1 hg
  have g2 := g.P4
  have g5 := g.G2
  have hG : elB P Q G = true := el_iff.2 ⟨by omega, g.GP, g.GQ⟩
  have h0 : prE P Q G [G, C] [m, r] = 0 := prE_zero.2 ⟨hg, rfl, by simp, by simp [hG, hc], by simp [hm, hr]⟩
  refine ⟨h0, ?_⟩
  rw [prV, if_pos h0]
  show (1 * gpw P Q G m % P) * gpw P Q C r % P = _
  rw [Int.one_mul, show gpw P Q G m % P = gpw P Q G m from Int.emod_eq_of_lt (gpw_nonneg (by omega)).1 (gpw_nonneg (by omega)).2]
  rfl

theorem com_el {P Q G A B C m r : Int} (hb : bvB P Q G A B C = true) : elB P Q (comV P Q G C m r) = true := by
  obtain ⟨hg, _, _, _, hc⟩ := bv_iff.1 hb
  have g := gv_iff.1 hg
  have g2 := g.P4
  have g3 := g.Q3
  have g5 := g.G2
  have hG : elB P Q G = true := el_iff.2 ⟨by omega, g.GP, g.GQ⟩
  exact el_mul (by omega) (by omega) (gpw_el (by omega) (by omega) hG m) (gpw_el (by omega) (by omega) hc r)

end Go.Proofs.YtdlcmpbpdbpanaaGreatDoor
namespace Go.Proofs.YtdlcmpbpdbpanaaGreatDoor
open Go.RowKit Go.Sp
set_option maxHeartbeats 2000000
set_option maxRecDepth 20000

theorem giv_zero {P Q G A B C : Int} {ss es : List Int} : givE P Q G A B C ss es = 0 ↔ bvB P Q G A B C = true ∧ (∀ x ∈ ss, exB Q x = true) ∧ ∀ x ∈ es, elB P Q x = true := by
  unfold givE
  by_cases h : bvB P Q G A B C = true
  · rw [if_pos h]
    by_cases h3 : ss.all (exB Q) = true ∧ es.all (elB P Q) = true
    · rw [if_pos h3]
      exact ⟨fun _ => ⟨h, List.all_eq_true.1 h3.1, List.all_eq_true.1 h3.2⟩, fun _ => rfl⟩
    · rw [if_neg h3]
      constructor
      · intro h; omega
      · rintro ⟨_, h4, h5⟩
        exact absurd ⟨List.all_eq_true.2 h4, List.all_eq_true.2 h5⟩ h3
  · rw [if_neg h]
    constructor
    · intro h; omega
    · rintro ⟨h1, _⟩
      exact absurd h1 h

theorem ints_none (w : World) : IntsAt w (.slice none 0 0) [] := ⟨by simp, none, 0, rfl, fun h => absurd rfl h⟩

/-- A commitment, or 0. -/
def comR (P Q G A B C m r : Int) : Int := if givE P Q G A B C [m, r] [] = 0 then comV P Q G C m r else 0

end Go.Proofs.YtdlcmpbpdbpanaaGreatDoor
namespace Go.Proofs.YtdlcmpbpdbpanaaGreatDoor
open Go.RowKit Go.Sp Go.Sort
set_option maxHeartbeats 400000

theorem infoInt : (Tryz.prog.info? 3).map (fun i => (i.zero, i.size, i.bytes)) = some (some (.int .i64 0), 1, 8) := by kernel_rfl

/-- The slice v is the call's own, and holds just these integers. -/
def OwnI (w : World) (base : Nat) (v : Value) (xs : List Int) : Prop := w.ownsRow base 3 1 v xs.length (xs.map (Value.int .i64))

theorem OwnI.ints {w : World} {base : Nat} {v : Value} {xs : List Int} (h : OwnI w base v xs) : IntsAt w v xs := by
  rcases h.2 with ⟨hv, hn⟩ | ⟨g, cap, cur, rfl, hb, hg, hn, hm, hs, ht⟩
  · exact ⟨by omega, none, 0, by rw [hv, hn], fun hne => absurd (List.length_eq_zero_iff.1 hn) hne⟩
  · refine ⟨by unfold maxLen at hm; omega, _, cap, rfl, fun _ => ⟨g, 0, rfl, fun i hi => ?_⟩⟩
    rw [Nat.zero_add, World.ownsRow.cellAt h i (by omega)]
    simp [hi]

theorem OwnI.grown {w w' : World} {base : Nat} {v : Value} {xs : List Int} {row : Option Nat} (h : OwnI w base v xs) (hg : w.grownBy w' row) (hne : v.ownBlock = none ∨ v.ownBlock ≠ row) : OwnI w' base v xs :=
  World.ownsRow.kept h hg hne

theorem ownsRow_up {w w' : World} {base e size n : Nat} {v : Value} {xs : List Value} (h : w.ownsRow base e size v n xs) (hU : Up w w') : w'.ownsRow base e size v n xs := by
  refine ⟨h.1, ?_⟩
  rcases h.2 with hn | ⟨g, cap, cur, rfl, hb, hgg, rest⟩
  · exact .inl hn
  · refine .inr ⟨g, cap, cur, rfl, hb, ?_, rest⟩
    rw [hU.block (Array.getElem?_eq_some_iff.1 hgg).1]
    exact hgg

theorem OwnI.up {w w' : World} {base : Nat} {v : Value} {xs : List Int} (h : OwnI w base v xs) (hU : Up w w') : OwnI w' base v xs := ownsRow_up h hU

theorem OwnI.mono {w : World} {base base' : Nat} {v : Value} {xs : List Int} (h : OwnI w base v xs) (hb : base' ≤ base) : OwnI w base' v xs := by
  refine ⟨h.1, ?_⟩
  rcases h.2 with hn | ⟨g, cap, cur, rfl, hb2, rest⟩
  · exact .inl hn
  · exact .inr ⟨g, cap, cur, rfl, by omega, rest⟩

theorem up_grown {w w' w'' : World} {row : Option Nat} (h : Up w w') (hg : w'.grownBy w'' row) (hr : ∀ k, row = some k → w.heap.size ≤ k) : Up w w'' := Below.grown h hg h.size hr

/-- The numbers in order. -/
def isort (xs : List Int) : List Int := xs.mergeSort fun x y => decide (x ≤ y)

theorem isort_length (xs : List Int) : (isort xs).length = xs.length := List.length_mergeSort xs

/-- The cells of a list that is filled from the left. -/
def filled (f : Nat → Int) (n i : Nat) : List Value := (List.range n).map fun j => Value.int .i64 (if j < i then f j else 0)

theorem filled_set (f : Nat → Int) (n i : Nat) : (filled f n i).set i (.int .i64 (f i)) = filled f n (i + 1) := by
  apply List.ext_getElem
  · simp [filled]
  · intro j h1 h2
    simp only [filled, List.getElem_set, List.getElem_map, List.getElem_range]
    split
    · rename_i h; subst h; simp
    · rename_i h
      have : (j < i + 1) = (j < i) := by simp; omega
      simp [this]

theorem filled_zero (f : Nat → Int) (n : Nat) : (madeCells #[Value.int .i64 0] n).toList = filled f n 0 := by
  apply List.ext_getElem
  · simp [filled, madeCells]
  · intro j h1 h2
    simp [filled, madeCells, Nat.mod_one]

theorem filled_all (f : Nat → Int) (n : Nat) : filled f n n = ((List.range n).map f).map (Value.int .i64) := by
  apply List.ext_getElem
  · simp [filled]
  · intro j h1 h2
    simp [filled] at h1 ⊢
    intro h; omega

/-- The powers of G, from that by 0 on. -/
def powList (P G : Int) (n : Nat) : List Int := (List.range n).map fun i => pw G i P

def ElemOut (P Q G : Int) (w : World) (e : Ending) (w' : World) : Prop :=
  ∃ v, e = .returned (.tuple #[v, .int .i64 0]) ∧ OwnI w' w.heap.size v (isort (powList P G Q.toNat)) ∧ Up w w'

end Go.Proofs.YtdlcmpbpdbpanaaGreatDoor
namespace Go.Proofs.YtdlcmpbpdbpanaaGreatDoor
open Go.Sp

theorem isort_perm (xs : List Int) : (isort xs).Perm xs := List.mergeSort_perm _ _

theorem isort_sorted (xs : List Int) : (isort xs).Pairwise (· ≤ ·) :=
  (List.pairwise_mergeSort (le := fun x y : Int => decide (x ≤ y)) (fun _ _ _ h1 h2 => by simp at *; omega) (fun _ _ => by simp; omega) xs).imp (fun h => by simpa using h)

theorem sorted_eq {xs ys : List Int} (h1 : xs.Pairwise (· ≤ ·)) (h2 : ys.Pairwise (· ≤ ·)) (h : xs.Perm ys) : xs = ys :=
  List.Perm.eq_of_pairwise (fun _ _ _ _ h3 h4 => Int.le_antisymm h3 h4) h1 h2 h

theorem isort_eq {xs ys : List Int} (h2 : ys.Pairwise (· ≤ ·)) (h : xs.Perm ys) : isort xs = ys :=
  sorted_eq (isort_sorted xs) h2 ((isort_perm xs).trans h)

theorem isort_small : isort (powList 23 4 (11 : Int).toNat) = [1, 2, 3, 4, 6, 8, 9, 12, 13, 16, 18] :=
  isort_eq (by decide) (by decide +kernel)
end Go.Proofs.YtdlcmpbpdbpanaaGreatDoor
