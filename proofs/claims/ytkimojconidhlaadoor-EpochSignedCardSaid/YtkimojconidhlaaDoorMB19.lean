/- The reference's SHA-256: numbers in bytes, the padded form, the constants. The reference's SHA-256: the words of a block. The reference's SHA-256: a round. The reference's SHA-256: joined, tagged, and the number of a digest. The reference's encoding: a number in bytes. -/
import Derived.Test.YtkimojconidhlaaDoorMB5
import Derived.Test.YtkimojconidhlaaDoorMB4
import Derived.Test.YtkimojconidhlaaDoorMB3
import Derived.Test.YtkimojconidhlaaDoorMB6
import Derived.Test.YtkimojconidhlaaDoorMB10
import Derived.Test.YtkimojconidhlaaDoorMB7
import Derived.Test.YtkimojconidhlaaDoorMB14
import Derived.Test.YtkimojconidhlaaDoorMB15
import Derived.Deep.RegionLaw
import Derived.IntWalk
import Derived.StillTailTactics
namespace Go.Proofs.YtkimojconidhlaaDoor
open Go.RowKit Go.Sp
set_option maxHeartbeats 2000000
set_option maxRecDepth 20000

end Go.Proofs.YtkimojconidhlaaDoor
namespace Go.Proofs.YtkimojconidhlaaDoor
open Go.RowKit Go.Sp
set_option maxHeartbeats 4000000
set_option maxRecDepth 20000

theorem infoU32 : (Tryd.prog.info? 133).map (fun i => (i.zero, i.size, i.bytes)) = some (some (.int .u32 0), 1, 4) := by kernel_rfl

theorem own_there {e : TypeId} {k : IntKind} {w : World} {base : Nat} {v : Value} {xs : List Int} (h : OwnS e k w base v xs) (hne : xs ≠ []) :
    ∃ g cap, v = .slice (some ⟨g, 0, none⟩) xs.length cap ∧ g < w.heap.size ∧ xs.length ≤ cap ∧ cap ≤ 9223372036854775807 ∧ ∀ i, i < xs.length → w.cell? ⟨g, i, none⟩ = some (.int k (xs.getD i 0)) := by
  have hc := h
  rcases h.2 with ⟨hv, hn⟩ | ⟨g, cap, cur, rfl, hb, hg, hn, hm, hs, ht⟩
  · exact absurd (List.length_eq_zero_iff.1 hn) hne
  · refine ⟨g, cap, rfl, (Array.getElem?_eq_some_iff.1 hg).1, hn, by unfold maxLen at hm; omega, fun i hi => ?_⟩
    rw [World.ownsRow.cellAt hc i (by omega)]
    simp [hi]

theorem cup {w w' : World} {b o : Nat} {v : Value} (hU : Up w w') (h : w.cell? ⟨b, o, none⟩ = some v) : w'.cell? ⟨b, o, none⟩ = some v := by rw [hU.cell (cell_in h)]; exact h

/-- The first n words. -/
def wL (b : Nat → Int) (n : Nat) : List Int := (List.range n).map (wAt b)
theorem wL_length (b : Nat → Int) (n : Nat) : (wL b n).length = n := by simp [wL]
theorem wL_succ (b : Nat → Int) (n : Nat) : wL b (n + 1) = wL b n ++ [wAt b n] := by
  unfold wL
  rw [List.range_succ, List.map_append]
  rfl
theorem wL_get {b : Nat → Int} {n i : Nat} (hi : i < n) : (wL b n).getD i 0 = wAt b i := by
  unfold wL
  simp [hi]

end Go.Proofs.YtkimojconidhlaaDoor
namespace Go.Proofs.YtkimojconidhlaaDoor
open Go.RowKit Go.Sp
set_option maxHeartbeats 4000000
set_option maxRecDepth 20000

theorem cupF {w : World} {b o : Nat} {v : Value} (h : w.cell? ⟨b, o, none⟩ = some v) (p : UpFrom w) : p.w'.cell? ⟨b, o, none⟩ = some v := cup p.up h

/-- Eight words in a block, from its head on. -/
def EightAt (w : World) (g : Nat) (s : St) : Prop := ∀ i, i < 8 → w.cell? ⟨g, i, none⟩ = some (.int .u32 (s.get i))
theorem EightAt.up {w w' : World} {g : Nat} {s : St} (h : EightAt w g s) (hU : Up w w') : EightAt w' g s := fun i hi => cup hU (h i hi)
theorem eight_blk {w : World} {g : Nat} {t : TypeId} {s : St} (h : Blk w g t (stA s)) : EightAt w g s := fun i hi => by
  rw [stA_arr] at h
  exact h.val (arrK_get hi)
theorem own_there2 {e : TypeId} {k : IntKind} {w w' : World} {base b : Nat} {v : Value} {xs : List Int} (h : OwnS e k w base v xs) (hg : w.grownBy w' (some b)) (hb : b < base) : OwnS e k w' base v xs := by
  refine ⟨h.1, ?_⟩
  rcases h.2 with h2 | ⟨g, cap, cur, h1, h2, h3, h4⟩
  · exact .inl h2
  · exact .inr ⟨g, cap, cur, h1, h2, by rw [hg.block g (Array.getElem?_eq_some_iff.1 h3).1 (by simp; omega)]; exact h3, h4⟩
theorem grown_cell (w : World) (o i : Nat) (v : Value) : w.grownBy (w.setCell ⟨o, i, none⟩ v) (some o) :=
  ⟨rfl, rfl, rfl, by simp [World.setCell], fun k _ hr => Below.heap_setCell w _ v k (fun e => hr (by rw [e]))⟩

theorem EightAt.wrote {w : World} {g o i : Nat} {s : St} {v : Value} (h : EightAt w g s) (hne : g ≠ o) : EightAt (w.setCell ⟨o, i, none⟩ v) g s := fun j hj => (grown_cell w o i v).cell (h j hj) (by simp; omega)

theorem seq8 {w : World} {g : Nat} {t : TypeId} {s : St} (h : Blk w g t (stA s)) : SeqAt .u32 w (.slice (some ⟨g, 0, none⟩) 8 8) [s.a, s.b, s.c, s.d, s.e, s.f, s.g, s.h] :=
  seq_block h [s.a, s.b, s.c, s.d, s.e, s.f, s.g, s.h] 0 8 8 rfl (Nat.le_refl _) (by decide) fun i hi => by
    have : i = 0 ∨ i = 1 ∨ i = 2 ∨ i = 3 ∨ i = 4 ∨ i = 5 ∨ i = 6 ∨ i = 7 := by omega
    rcases this with rfl | rfl | rfl | rfl | rfl | rfl | rfl | rfl <;> rfl

theorem blk_byt_cut {p : List Int} (h : ∀ x ∈ p, 0 ≤ x ∧ x ≤ 255) (m : Nat) : Byt fun j => ((p.drop m).take (m + 64 - m)).getD j 0 := fun j => byt_getD (fun x hx => h x (List.mem_of_mem_drop (List.mem_of_mem_take hx))) j

end Go.Proofs.YtkimojconidhlaaDoor
namespace Go.Proofs.YtkimojconidhlaaDoor
open Go.RowKit Go.Sp
set_option maxHeartbeats 4000000
set_option maxRecDepth 20000

/-- Bytes and the first so many of a digest. -/
def joinTo (h : Nat → Int) (xs : List Int) (i : Nat) : List Int := xs ++ (List.range i).map h
theorem joinTo_length (h : Nat → Int) (xs : List Int) (i : Nat) : (joinTo h xs i).length = xs.length + i := by simp [joinTo]
theorem joinTo_succ (h : Nat → Int) (xs : List Int) (i : Nat) : joinTo h xs i ++ [h i] = joinTo h xs (i + 1) := by
  unfold joinTo
  rw [List.range_succ, List.map_append, List.append_assoc]
  rfl

end Go.Proofs.YtkimojconidhlaaDoor
namespace Go.Proofs.YtkimojconidhlaaDoor
open Go.RowKit Go.Sp
set_option maxHeartbeats 4000000
set_option maxRecDepth 20000

/-- The last so many are filled. -/
def bfill (f : Nat → Int) (n s : Nat) : Nat → Int := fun j => if n ≤ j + s then f j else 0
theorem bfill_zero (k : IntKind) (f : Nat → Int) (n : Nat) : arrK k (fun _ => 0) n = arrK k (bfill f n 0) n := arrK_congr fun j hj => by
  rw [bfill, if_neg (by omega)]
theorem bfill_all (k : IntKind) (f : Nat → Int) (n : Nat) : arrK k (bfill f n n) n = arrK k f n := arrK_congr fun j _ => by
  rw [bfill, if_pos (by omega)]
theorem bfill_put (k : IntKind) (f : Nat → Int) (n s i : Nat) (hi : i + 1 + s = n) : (arrK k (bfill f n s) n).setIfInBounds i (.int k (f i)) = arrK k (bfill f n (s + 1)) n := by
  rw [arrK_set]
  refine arrK_congr fun t _ => ?_
  unfold bfill
  by_cases h : t = i
  · subst h
    rw [if_pos rfl, if_pos (by omega)]
  · have e1 : (n ≤ t + (s + 1)) ↔ (n ≤ t + s) := by omega
    simp [h, e1]
theorem bfill_at {k : IntKind} {f : Nat → Int} {n s i : Nat} (hi : i + 1 + s = n) : (arrK k (bfill f n s) n)[i]? = some (.int k 0) := by
  rw [arrK_get (by omega), bfill, if_neg (by omega)]

theorem div_256 (n : Int) (s : Nat) : n / 2 ^ (8 * s) / 256 = n / 2 ^ (8 * (s + 1)) := by
  rw [show 8 * (s + 1) = 8 * s + 8 by omega, Int.pow_add, ← Int.ediv_ediv_of_nonneg (Int.le_of_lt (Int.pow_pos (by decide)))]
  rfl

end Go.Proofs.YtkimojconidhlaaDoor
