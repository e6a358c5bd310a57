/- The plain laws of ProductAdds. -/
import Derived.Test.YtldodbffdegmiaaDoorProdD
import Derived.Test.YtldodbffdegmiaaDoorProdB
namespace Go.Proofs.YtldodbffdegmiaaDoor
open Go.RowKit Go.Sp

theorem exB_mod {Q : Int} (hQ : 1 ≤ Q) (v : Int) : exB Q (v % Q) = true := by
  simp [exB]
  exact ⟨Int.emod_nonneg _ (by omega), Int.emod_lt_of_pos _ (by omega)⟩

theorem range_zip {n : Nat} {F : Int → Int → Int} {ms cs : List Int} (hm : ms.length = n) (hc : cs.length = n) :
    (List.range n).map (fun j => F (ms.getD j 0) (cs.getD j 0)) = List.zipWith F ms cs := by
  apply List.ext_getElem
  · simp [hm, hc]
  · intro i h1 h2
    have hi : i < n := by simpa using h1
    simp [hm, hc, hi]

theorem range_map {n : Nat} {F : Int → Int} {ms : List Int} (hm : ms.length = n) :
    (List.range n).map (fun j => F (ms.getD j 0)) = ms.map F := by
  apply List.ext_getElem
  · simp [hm]
  · intro i h1 h2
    have hi : i < n := by simpa using h1
    simp [hm, hi]

theorem gpw_of_one {P Q k : Int} (hP : 2 ≤ P) : gpw P Q 1 k = 1 := by
  unfold gpw pw
  rw [Int.one_pow, Int.emod_eq_of_lt (by omega) (by omega)]

section
variable {P Q G : Int} {bs ms cs : List Int} {n : Nat}

theorem adds_sum (hg : gvB P Q G = true) (hn : bs.length = n) (hm : ms.length = n) (hc : cs.length = n) (h100 : n ≤ 100) (hb : ∀ b ∈ bs, elB P Q b = true) :
    prE P Q G bs ((List.range n).map fun j => (ms.getD j 0 + cs.getD j 0) % Q) = 0 ∧ prV P Q G bs ((List.range n).map fun j => (ms.getD j 0 + cs.getD j 0) % Q) = pfold P Q 1 bs ms * pfold P Q 1 bs cs % P := by
  have g := gv_iff.1 hg
  have g2 := g.P4
  have g3 := g.Q3
  have hE : prE P Q G bs ((List.range n).map fun j => (ms.getD j 0 + cs.getD j 0) % Q) = 0 := prE_zero.2 ⟨hg, by simp [hn], by omega, hb, fun e he => by
    obtain ⟨j, _, rfl⟩ := List.mem_map.1 he
    exact exB_mod (by omega) _⟩
  refine ⟨hE, ?_⟩
  have h := pfold_sum (P := P) (Q := Q) (by omega) (by omega) bs ms cs 1 1 hb (by rw [hm, hn]) (by rw [hc, hn])
  rw [show (1 * 1 % P : Int) = 1 by rw [Int.one_mul, Int.emod_eq_of_lt (by omega) (by omega)]] at h
  rw [prV, if_pos hE, range_zip (F := fun a e => (a + e) % Q) hm hc, h]

theorem adds_times (k : Int) (hg : gvB P Q G = true) (hn : bs.length = n) (hm : ms.length = n) (h100 : n ≤ 100) (hb : ∀ b ∈ bs, elB P Q b = true) :
    prE P Q G bs ((List.range n).map fun j => ms.getD j 0 * k % Q) = 0 ∧ prV P Q G bs ((List.range n).map fun j => ms.getD j 0 * k % Q) = gpw P Q (pfold P Q 1 bs ms) k := by
  have g := gv_iff.1 hg
  have g2 := g.P4
  have g3 := g.Q3
  have hE : prE P Q G bs ((List.range n).map fun j => ms.getD j 0 * k % Q) = 0 := prE_zero.2 ⟨hg, by simp [hn], by omega, hb, fun e he => by
    obtain ⟨j, _, rfl⟩ := List.mem_map.1 he
    exact exB_mod (by omega) _⟩
  refine ⟨hE, ?_⟩
  have h := pfold_times (P := P) (Q := Q) (by omega) (by omega) k bs ms 1 hb
  rw [gpw_of_one (by omega)] at h
  rw [prV, if_pos hE, range_map (F := fun a => a * k % Q) hm, h]

theorem adds_none (hg : gvB P Q G = true) (hn : bs.length = n) (h100 : n ≤ 100) (hb : ∀ b ∈ bs, elB P Q b = true) :
    prE P Q G bs ((List.range n).map fun _ => 0) = 0 ∧ prV P Q G bs ((List.range n).map fun _ => 0) = 1 := by
  have g := gv_iff.1 hg
  have g2 := g.P4
  have g3 := g.Q3
  have hE : prE P Q G bs ((List.range n).map fun _ => 0) = 0 := prE_zero.2 ⟨hg, by simp [hn], by omega, hb, fun e he => by
    obtain ⟨j, _, rfl⟩ := List.mem_map.1 he
    simp [exB]; omega⟩
  refine ⟨hE, ?_⟩
  rw [prV, if_pos hE]
  exact pfold_none (by omega) bs _ fun e he => by
    obtain ⟨j, _, rfl⟩ := List.mem_map.1 he
    rfl
end
end Go.Proofs.YtldodbffdegmiaaDoor
