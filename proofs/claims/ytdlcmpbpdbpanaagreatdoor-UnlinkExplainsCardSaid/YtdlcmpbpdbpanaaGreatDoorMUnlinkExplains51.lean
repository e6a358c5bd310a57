/- The reference's elements of a small group. All elements of a small group: the powers of the generator, in order. -/
import Derived.Test.YtdlcmpbpdbpanaaGreatDoorMUnlinkExplains7
import Derived.Test.YtdlcmpbpdbpanaaGreatDoorMUnlinkExplains8
import Derived.Test.YtdlcmpbpdbpanaaGreatDoorMUnlinkExplains47
import Derived.Test.YtdlcmpbpdbpanaaGreatDoorMUnlinkExplains49
import Derived.Test.YtdlcmpbpdbpanaaGreatDoorMUnlinkExplains50
namespace Go.Proofs.YtdlcmpbpdbpanaaGreatDoor
open Go.RowKit Go.Sp
set_option maxHeartbeats 1000000
set_option maxRecDepth 20000

/-- The elements among 1 .. i. -/
def found (P Q : Int) (i : Nat) : List Int := ((List.range i).map fun (j : Nat) => (j : Int) + 1).filter (elB P Q)

theorem found_succ (P Q : Int) (i : Nat) : found P Q (i + 1) = found P Q i ++ (if elB P Q (i + 1) = true then [(i : Int) + 1] else []) := by
  unfold found
  rw [List.range_succ, List.map_append, List.filter_append]
  congr 1
  simp [List.filter_cons]

theorem found_length (P Q : Int) (i : Nat) : (found P Q i).length ≤ i := by
  unfold found
  exact Nat.le_trans (List.length_filter_le _ _) (by simp)

theorem found_prefix (P Q : Int) {i j : Nat} (h : i ≤ j) : (found P Q i) <+: (found P Q j) := by
  obtain ⟨d, rfl⟩ : ∃ d, j = i + d := ⟨j - i, by omega⟩
  induction d with
  | zero => exact List.prefix_refl _
  | succ d ih =>
    refine List.IsPrefix.trans (ih (by omega)) ?_
    rw [show i + (d + 1) = i + d + 1 by omega, found_succ]
    exact List.prefix_append _ _

def RefElemOut (P Q : Int) (w : World) (e : Ending) (w' : World) : Prop :=
  ∃ v, e = .returned v ∧ OwnI w' w.heap.size v (found P Q (P - 1).toNat) ∧ Up w w'

end Go.Proofs.YtdlcmpbpdbpanaaGreatDoor
namespace Go.Proofs.YtdlcmpbpdbpanaaGreatDoor
open Go.Sp

theorem prim_of {n : Int} (h : isP n = true) (hn : n < 1048576) : Prim n.toNat := by
  have h2 := isP_two h
  refine ⟨by omega, fun q hq hqq => small_prime ?_ (by omega) hq hqq⟩
  rw [show ((n.toNat : Nat) : Int) = n by omega]; exact h

theorem mem_found {P Q x : Int} {n : Nat} : x ∈ found P Q n ↔ 1 ≤ x ∧ x ≤ n ∧ elB P Q x = true := by
  unfold found
  rw [List.mem_filter, List.mem_map]
  constructor
  · rintro ⟨⟨j, hj, rfl⟩, h⟩
    have := List.mem_range.1 hj
    exact ⟨by omega, by omega, h⟩
  · rintro ⟨h1, h2, h⟩
    exact ⟨⟨(x - 1).toNat, List.mem_range.2 (by omega), by omega⟩, h⟩

theorem found_lt (P Q : Int) (n : Nat) : (found P Q n).Pairwise (· < ·) := by
  unfold found
  refine List.Pairwise.filter _ (List.pairwise_map.2 ?_)
  exact List.Pairwise.imp (fun h => by omega) (List.pairwise_lt_range (n := n))

theorem perm_of_nodup : ∀ {xs ys : List Int}, xs.Nodup → ys.Nodup → (∀ x, x ∈ xs ↔ x ∈ ys) → xs.Perm ys
  | [], ys, _, _, h => by
    have : ys = [] := List.eq_nil_iff_forall_not_mem.2 fun x hx => by have := (h x).2 hx; cases this
    rw [this]
  | x :: xs, ys, hx, hy, h => by
    obtain ⟨hn, hx⟩ := List.nodup_cons.1 hx
    have hxy : x ∈ ys := (h x).1 (by simp)
    refine List.Perm.trans (List.Perm.cons x (perm_of_nodup hx (hy.erase x) fun y => ?_)) (List.perm_cons_erase hxy).symm
    rw [hy.mem_erase_iff]
    constructor
    · intro hm
      exact ⟨fun e => hn (e ▸ hm), (h y).1 (by simp [hm])⟩
    · rintro ⟨hne, hm⟩
      rcases List.mem_cons.1 ((h y).2 hm) with e | hm
      · exact absurd e hne
      · exact hm

theorem el_range {P Q x : Int} (h : elB P Q x = true) : 1 ≤ x ∧ x < P := ⟨(el_iff.1 h).1, (el_iff.1 h).2.1⟩

/-- The elements of a small group, in order. -/
theorem found_eq {P Q G : Int} (hg : gvB P Q G = true) (hP : P < 1048576) {a : Int} (ha : elB P Q a = true) (h1 : a ≠ 1) : isort (powList P a Q.toNat) = found P Q (P - 1).toNat := by
  have g := gv_iff.1 hg
  have g2 := g.P4
  have g3 := g.Q3
  have g4 := g.QP
  have hp := prim_of g.pP hP
  have hq := prim_of g.pQ (by omega)
  refine isort_eq (List.Pairwise.imp (fun h => by omega) (found_lt P Q _)) ?_
  show (pows P Q a).Perm _
  refine perm_of_nodup (pows_nodup (by omega) hq ha h1) (List.Pairwise.imp (fun h => by omega) (found_lt P Q _)) fun x => ?_
  rw [mem_found]
  constructor
  · intro hm
    have h := of_mem_pows (by omega) (by omega) ha hm
    have := el_range h
    exact ⟨by omega, by omega, h⟩
  · rintro ⟨_, _, h⟩
    exact mem_pows hp hq ha h1 h

theorem gen_el {P Q G : Int} (hg : gvB P Q G = true) : elB P Q G = true ∧ G ≠ 1 := by
  have g := gv_iff.1 hg
  have g5 := g.G2
  exact ⟨el_iff.2 ⟨by omega, g.GP, g.GQ⟩, by omega⟩

theorem found_count {P Q G : Int} (hg : gvB P Q G = true) (hP : P < 1048576) : (found P Q (P - 1).toNat).length = Q.toNat := by
  obtain ⟨h1, h2⟩ := gen_el hg
  rw [← found_eq hg hP h1 h2, isort_length, powList]
  simp
end Go.Proofs.YtdlcmpbpdbpanaaGreatDoor
