/- Rows of bytes, and lists of signatures, among the arguments. The examples of layer 22. -/
import Derived.Test.YtdlcmpbpdbpanaaGreatDoorMB31
import Derived.Test.YtdlcmpbpdbpanaaGreatDoorMB30
import Derived.Test.YtdlcmpbpdbpanaaGreatDoorMB25
import Derived.Test.YtdlcmpbpdbpanaaGreatDoorMB15
import Derived.Deep.SlicePairs
namespace Go.Proofs.YtdlcmpbpdbpanaaGreatDoor
open Go.ChangeShapes Go.WideShapes Go.ChangeAt Go.RowKit Go.Sp Go.Joins Go.Deep

set_option maxRecDepth 100000 in
theorem open_brows {H : Type} {enc : TypeId × Value → H} {b0 base : Nat} {w : World} {v : Value} {d : DataW H} {p : List MemPlace}
    (hv : Value.okWide Tryz.prog w .any b0 63 v) (h : DataW.Trod enc Tryz.prog w base (fun _ => true) true 63 v d p) :
    ∃ rs : List (List Int), BRowsAt w v rs ∧ ∀ r ∈ rs, ∀ x ∈ r, 0 ≤ x ∧ x ≤ 255 := by
  obtain ⟨a1, len, cap, rfl⟩ := okWide_slice Tryz.underlying63 hv
  obtain ⟨fuel, hf⟩ := h
  rcases open_int_rows Tryz.underlying63 Tryz.underlying51 Tryz.underlying5 (by kernel_rfl) cellsU8 hf with ⟨hcs, hx⟩ | ⟨a, len', cap', A, L, C, Z, hcs, _, hl, hm, hx, hrow⟩
  · simp [Value.cells] at hcs
    obtain ⟨rfl, rfl, rfl⟩ := hcs
    exact ⟨[], ⟨by simp, none, 0, rfl, fun h => absurd rfl h⟩, fun x hx => by cases hx⟩
  · simp [Value.cells] at hcs
    obtain ⟨rfl, rfl, rfl⟩ := hcs
    have hlen : ((List.range len).map fun r => (Z r).take (L r)).length = len := by simp
    unfold maxLen at hm
    refine ⟨(List.range len).map fun r => (Z r).take (L r), ⟨by omega, some a, cap, by rw [hlen], fun hne => ?_⟩, fun r hr x hx => ?_⟩
    · have h0 : 0 < len := by
        refine Nat.pos_of_ne_zero fun e => hne ?_
        subst e; rfl
      obtain ⟨ab, ao, spot⟩ := a
      have hspot : spot = none := by simpa [Addr.add] using World.cell?_spot (hrow 0 (by omega)).1
      subst hspot
      refine ⟨ab, ao, rfl, fun i hi => ?_⟩
      rw [hlen] at hi
      obtain ⟨h1, h2, h3, h4, h5, h6, h7⟩ := hrow i (by omega)
      rw [Addr.add_lit] at h1
      refine ⟨_, h1, ?_⟩
      rw [show ((List.range len).map fun r => (Z r).take (L r)).getD i [] = (Z i).take (L i) by simp [hi]]
      cases hA : A i with
      | none =>
        have hC := h6 hA
        have hL : L i = 0 := by omega
        rw [hL, hC]
        exact ⟨none, 0, by simp, by simp, by omega, fun _ => rfl, fun h => absurd (by simp) h⟩
      | some a' =>
        obtain ⟨_, hc⟩ := h7 a' hA
        exact seq_of_zs h2 h3 h4 (fun c hcl => hc c (by omega))
    · obtain ⟨i, hi, rfl⟩ := List.mem_map.1 hr
      obtain ⟨h1, h2, h3, h4, h5, h6, h7⟩ := hrow i (by have := List.mem_range.1 hi; omega)
      exact bounds_u8 (h5 x (List.mem_of_mem_take hx))

set_option maxRecDepth 100000 in
theorem open_sigs {H : Type} {enc : TypeId × Value → H} {b0 base : Nat} {w : World} {v : Value} {d : DataW H} {p : List MemPlace}
    (hv : Value.okWide Tryz.prog w .any b0 64 v) (h : DataW.Trod enc Tryz.prog w base (fun _ => true) true 64 v d p) :
    ∃ l : List (Int × Int), SigsAt w v l := by
  obtain ⟨a1, len, cap, rfl⟩ := okWide_slice Tryz.underlying64 hv
  obtain ⟨fuel, hf⟩ := h
  rcases open_slice_pairs Tryz.underlying64 Tryz.underlying67 (by kernel_rfl) rfl rfl cellsInt cellsInt hf with ⟨hcs, hx⟩ | ⟨a, len', cap', m, n, V0, V1, D0, D1, P0, P1, hcs, _, hl, hm, hmm, hx, hrow⟩
  · simp [Value.cells] at hcs
    obtain ⟨rfl, rfl, rfl⟩ := hcs
    exact ⟨[], ⟨by simp, none, 0, rfl, fun h => absurd rfl h⟩⟩
  · simp [Value.cells] at hcs
    obtain ⟨rfl, rfl, rfl⟩ := hcs
    simp only [if_true] at hmm
    subst hmm
    unfold maxLen at hm
    have hlen : ((List.range len).map fun r => (intC (some (V0 r)), intC (some (V1 r)))).length = len := by simp
    refine ⟨(List.range len).map fun r => (intC (some (V0 r)), intC (some (V1 r))), by omega, some a, m, by rw [hlen], fun hne => ?_⟩
    have h0 : 0 < len := by
      refine Nat.pos_of_ne_zero fun e => hne ?_
      subst e; rfl
    obtain ⟨ab, ao, spot⟩ := a
    have hspot : spot = none := by simpa [Addr.add] using World.cell?_spot (hrow 0 (by omega)).1
    subst hspot
    refine ⟨ab, ao, rfl, fun i hi => ?_⟩
    rw [hlen] at hi
    obtain ⟨h1, h2, h3, h4⟩ := hrow i (by omega)
    rw [Addr.add_lit] at h1 h2
    obtain ⟨q0, e0, _, _⟩ := DataW.trod_int Tryz.underlying3 h3
    obtain ⟨q1, e1, _, _⟩ := DataW.trod_int Tryz.underlying3 h4
    simp at e0 e1
    rw [show ((List.range len).map fun r => (intC (some (V0 r)), intC (some (V1 r)))).getD i (0, 0) = (intC (some (V0 i)), intC (some (V1 i))) by simp [hi]]
    rw [e0] at h1 ⊢
    rw [e1] at h2 ⊢
    exact ⟨h1, by rw [Nat.add_assoc]; exact h2⟩
end Go.Proofs.YtdlcmpbpdbpanaaGreatDoor
namespace Go.Proofs.YtdlcmpbpdbpanaaGreatDoor
open Go.RowKit Go.Sp
set_option maxHeartbeats 4000000
set_option maxRecDepth 20000

theorem small22 (w : World) : Calls Tryz.prog 96 #[] w fun e w' => e = .returned (grp 23 11 4) ∧ Up w w' := by
  go_enter Tryz.func96, Tryz.ntmps96
  go_wp2
  go_returns
  exact ⟨rfl, ((Up.refl w).alloc _)⟩

theorem awake22 (w : World) (hT : Tab w) : Calls Tryz.prog 28 #[] w fun e w' => e = .returned (.bool true) ∧ Up w w' := by
  have M1 := hid (fun w' (hU : Up w w') => sigKey_any 23 11 4 3 w' (by omega) (by omega) (hT.up hU))
  rw [show errE (gvB 23 11 4) (exB 11 3) = 0 by decide +kernel, show pwi 23 4 3 = 18 by decide +kernel, show orZ 0 18 = 18 from rfl] at M1
  have M2 := hid (fun w' (hU : Up w w') => sigForge_any 23 11 4 18 2 0 w' (by omega) (by omega) (hT.up hU))
  rw [show frgE 23 11 4 18 2 0 = 0 by decide +kernel, show frgV 23 11 4 18 2 0 = 12 by decide +kernel, show orZ 0 12 = 12 from rfl] at M2
  clear hT
  go_enter Tryz.func28, Tryz.ntmps28
  go_wp2_with fail
  refine (small22 _).mono ?_
  rintro e w1 ⟨rfl, hU1⟩
  have HU1 := hid ((Up.refl w).trans hU1)
  clear hU1
  go_wp2_with fail
  refine (M1.out _ (HU1.out)).mono ?_
  rintro e w2 ⟨rfl, hU2⟩
  have HU2 := hid (HU1.out.trans hU2)
  clear hU2 HU1
  go_wp2_with fail
  refine (small22 _).mono ?_
  rintro e w3 ⟨rfl, hU3⟩
  have HU3 := hid (HU2.out.trans hU3)
  clear hU3 HU2
  go_wp2_with fail
  refine (M2.out _ (HU3.out)).mono ?_
  rintro e w4 ⟨rfl, hU4⟩
  have HU4 := hid (HU3.out.trans hU4)
  clear hU4 HU3
  go_wp2
  go_ret
  exact ⟨rfl, HU4.out⟩
end Go.Proofs.YtdlcmpbpdbpanaaGreatDoor
