/- Plain facts on sorted lists of integers. -/
import Derived.Test.YtmbbnjbohnobcaaDoorSlices
namespace Go.Proofs.YtmbbnjbohnobcaaDoor
open Go.Sp

theorem isort_perm (xs : List Int) : (isort xs).Perm xs := List.mergeSort_perm _ _

theorem isort_sorted (xs : List Int) : (isort xs).Pairwise (· ≤ ·) :=
  (List.pairwise_mergeSort (le := fun x y : Int => decide (x ≤ y)) (fun _ _ _ h1 h2 => by simp at *; omega) (fun _ _ => by simp; omega) xs).imp (fun h => by simpa using h)

theorem sorted_eq {xs ys : List Int} (h1 : xs.Pairwise (· ≤ ·)) (h2 : ys.Pairwise (· ≤ ·)) (h : xs.Perm ys) : xs = ys :=
  List.Perm.eq_of_pairwise (fun _ _ _ _ h3 h4 => Int.le_antisymm h3 h4) h1 h2 h

theorem isort_eq {xs ys : List Int} (h2 : ys.Pairwise (· ≤ ·)) (h : xs.Perm ys) : isort xs = ys :=
  sorted_eq (isort_sorted xs) h2 ((isort_perm xs).trans h)

theorem isort_small : isort (powList 23 4 (11 : Int).toNat) = [1, 2, 3, 4, 6, 8, 9, 12, 13, 16, 18] :=
  isort_eq (by decide) (by decide +kernel)
end Go.Proofs.YtmbbnjbohnobcaaDoor
