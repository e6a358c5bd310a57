/- Arguments opened: slices of integers, rows of them, tables, bases. -/
import Derived.Test.YtldodbffdegmiaaDoorShut
import Derived.Deep.Matrix
namespace Go.Proofs.YtldodbffdegmiaaDoor
open Go.ChangeShapes Go.WideShapes Go.ChangeAt Go.RowKit Go.Sp Go.Joins Go.Deep

theorem ints_of_zs {w : World} {a : Addr} {len cap : Nat} {zs : List Int} (hl : len ≤ cap) (hm : cap ≤ maxLen) (hz : zs.length = cap) (hcell : ∀ i, i < zs.length → w.cell? (a.add i) = some (.int .i64 (zs.getD i 0))) :
    IntsAt w (.slice (some a) len cap) (zs.take len) := by
  unfold maxLen at hm
  have hlen : (zs.take len).length = len := by simp; omega
  refine ⟨by omega, some a, cap, by rw [hlen], fun hne => ?_⟩
  have h0 : 0 < len := by
    refine Nat.pos_of_ne_zero fun e => hne ?_
    subst e; simp
  obtain ⟨ab, ao, spot⟩ := a
  have hspot : spot = none := by simpa [Addr.add] using World.cell?_spot (hcell 0 (by omega))
  subst hspot
  refine ⟨ab, ao, rfl, fun i hi => ?_⟩
  rw [hlen] at hi
  have := hcell i (by omega)
  rw [Addr.add_lit] at this
  rw [this]
  simp [hi]

set_option maxRecDepth 100000 in
/-- A slice of integers among the arguments. -/
theorem open_intslice {H : Type} {enc : TypeId × Value → H} {b0 base : Nat} {w : World} {v : Value} {d : DataW H} {p : List MemPlace}
    (hv : Value.okWide Tryd.prog w .any b0 36 v) (h : DataW.Trod enc Tryd.prog w base (fun _ => true) true 36 v d p) :
    ∃ xs : List Int, IntsAt w v xs ∧ ∀ x ∈ xs, -9223372036854775808 ≤ x ∧ x ≤ 9223372036854775807 := by
  obtain ⟨a1, len, cap, rfl⟩ := okWide_slice Tryd.underlying36 hv
  obtain ⟨fuel, hf⟩ := h
  rcases open_ints Tryd.underlying36 Tryd.underlying3 cellsInt hf with ⟨hcs, hx⟩ | ⟨a, len', cap', zs, hcs, _, hl, hm, hz, hx, hcell, hwz⟩
  · simp [Value.cells] at hcs
    obtain ⟨rfl, rfl, rfl⟩ := hcs
    exact ⟨[], ⟨by simp, none, 0, rfl, fun h => absurd rfl h⟩, fun x hx => by cases hx⟩
  · simp [Value.cells] at hcs
    obtain ⟨rfl, rfl, rfl⟩ := hcs
    simp only [if_true] at hz
    exact ⟨zs.take len, ints_of_zs hl hm hz hcell, fun x hx => bounds_i64 (hwz x (List.mem_of_mem_take hx))⟩

/-- A slice of slices of integers. -/
def RowsAt (w : World) (v : Value) (rs : List (List Int)) : Prop :=
  rs.length ≤ 9223372036854775807 ∧ ∃ a cap, v = .slice a rs.length cap ∧ (rs ≠ [] → ∃ b off, a = some ⟨b, off, none⟩ ∧ ∀ i, i < rs.length → ∃ u, w.cell? ⟨b, off + i, none⟩ = some u ∧ IntsAt w u (rs.getD i []))

theorem RowsAt.up {w w' : World} {v : Value} {rs : List (List Int)} (h : RowsAt w v rs) (hU : Up w w') : RowsAt w' v rs := by
  obtain ⟨hl, a, cap, rfl, hc⟩ := h
  refine ⟨hl, a, cap, rfl, fun hne => ?_⟩
  obtain ⟨b, off, rfl, hcell⟩ := hc hne
  refine ⟨b, off, rfl, fun i hi => ?_⟩
  obtain ⟨u, hu, hI⟩ := hcell i hi
  exact ⟨u, by rw [hU.cell (cell_lt hu)]; exact hu, hI.up hU⟩

set_option maxRecDepth 100000 in
theorem open_rows {H : Type} {enc : TypeId × Value → H} {b0 base : Nat} {w : World} {v : Value} {d : DataW H} {p : List MemPlace}
    (hv : Value.okWide Tryd.prog w .any b0 65 v) (h : DataW.Trod enc Tryd.prog w base (fun _ => true) true 65 v d p) :
    ∃ rs : List (List Int), RowsAt w v rs ∧ ∀ r ∈ rs, ∀ x ∈ r, -9223372036854775808 ≤ x ∧ x ≤ 9223372036854775807 := by
  obtain ⟨a1, len, cap, rfl⟩ := okWide_slice Tryd.underlying65 hv
  obtain ⟨fuel, hf⟩ := h
  rcases open_int_rows Tryd.underlying65 Tryd.underlying36 Tryd.underlying3 (by kernel_rfl) cellsInt hf with ⟨hcs, hx⟩ | ⟨a, len', cap', A, L, C, Z, hcs, _, hl, hm, hx, hrow⟩
  · simp [Value.cells] at hcs
    obtain ⟨rfl, rfl, rfl⟩ := hcs
    exact ⟨[], ⟨by simp, none, 0, rfl, fun h => absurd rfl h⟩, fun x hx => by cases hx⟩
  · simp [Value.cells] at hcs
    obtain ⟨rfl, rfl, rfl⟩ := hcs
    have hlen : ((List.range len).map fun r => (Z r).take (L r)).length = len := by simp
    unfold maxLen at hm
    refine ⟨(List.range len).map fun r => (Z r).take (L r), ⟨by omega, some a, cap, by rw [hlen], fun hne => ?_⟩, fun r hr x hx => ?_⟩
    · have h0 : 0 < len := by
        refine Nat.pos_of_ne_zero fun e => hne ?_
        subst e; rfl
      obtain ⟨ab, ao, spot⟩ := a
      have hspot : spot = none := by simpa [Addr.add] using World.cell?_spot (hrow 0 (by omega)).1
      subst hspot
      refine ⟨ab, ao, rfl, fun i hi => ?_⟩
      rw [hlen] at hi
      obtain ⟨h1, h2, h3, h4, h5, h6, h7⟩ := hrow i (by omega)
      rw [Addr.add_lit] at h1
      refine ⟨_, h1, ?_⟩
      rw [show ((List.range len).map fun r => (Z r).take (L r)).getD i [] = (Z i).take (L i) by simp [hi]]
      cases hA : A i with
      | none =>
        have hC := h6 hA
        have hL : L i = 0 := by omega
        rw [hL]
        exact ⟨by simp, none, C i, by simp, fun h => absurd (by simp) h⟩
      | some a' =>
        obtain ⟨_, hc⟩ := h7 a' hA
        exact ints_of_zs h2 h3 h4 (fun c hcl => hc c (by omega))
    · obtain ⟨i, hi, rfl⟩ := List.mem_map.1 hr
      obtain ⟨h1, h2, h3, h4, h5, h6, h7⟩ := hrow i (by have := List.mem_range.1 hi; omega)
      exact bounds_i64 (h5 x (List.mem_of_mem_take hx))
end Go.Proofs.YtldodbffdegmiaaDoor
