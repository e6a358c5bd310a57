/- The examples of layer 12. -/
import Derived.Test.YtmbbnjbohnobcaaDoorTabC
namespace Go.Proofs.YtmbbnjbohnobcaaDoor
open Go.RowKit Go.Sp
set_option maxHeartbeats 1000000
set_option maxRecDepth 20000

theorem small12 (w : World) : Calls Tryd.prog 61 #[] w fun e w' => e = .returned (grp 23 11 4) ∧ Up w w' := by
  go_enter Tryd.func61, Tryd.ntmps61
  go_wp2
  go_returns
  exact ⟨rfl, ((Up.refl w).alloc _)⟩

theorem tab_small : tabL 23 (digs 11) 4 = [1, 4, 16, 18, 3, 12, 2, 8, 9, 13, 6, 1, 4, 16, 18, 3] := by decide +kernel

theorem awake12 (w : World) (hT : Tab w) : Calls Tryd.prog 12 #[] w fun e w' => e = .returned (.bool true) ∧ Up w w' := by
  have HT := hid hT
  clear hT
  have hv : prV 23 11 4 [4, 2] [2, 3] = 13 := by decide +kernel
  have he : prE 23 11 4 [4, 2] [2, 3] = 0 := by decide +kernel
  have HV := hid hv
  have HE := hid he
  clear hv he
  go_enter Tryd.func12, Tryd.ntmps12
  go_wp2_with fail
  refine (small12 _).mono ?_
  rintro e w1 ⟨rfl, hU1⟩
  have HU1 := hid hU1
  clear hU1
  go_wp2_with fail
  refine (Product_any 23 11 4 _ _ [4, 2] [2, 3] _ (by omega) (by omega) (HT.out.up ((HU1.out.alloc _).alloc _)) (ints_two (by go_simp) (by go_simp)) (ints_two (by go_simp) (by go_simp))).mono ?_
  rintro e w2 ⟨rfl, hU2⟩
  rw [HV.out, HE.out]
  have HU2 := hid (((HU1.out.alloc _).alloc _).trans hU2)
  clear hU2
  go_wp2_with fail
  refine (small12 _).mono ?_
  rintro e w3 ⟨rfl, hU3⟩
  have HU3 := hid (HU2.out.trans hU3)
  clear hU3
  go_wp2_with fail
  refine (Table_ok 23 11 4 4 _ (HT.out.up HU3.out) gv_small (by decide +kernel)).mono ?_
  rintro e w4 ⟨v, rfl, hO, hU4⟩
  rw [tab_small] at hO
  obtain ⟨_, ad, cap, rfl, hc⟩ := hO.ints
  obtain ⟨b, off, rfl, hcell⟩ := hc (by simp)
  have k2 := hcell 2 (by simp)
  simp at k2
  have hlt := cell_lt k2
  have HU4 := hid (HU3.out.trans hU4)
  clear hO hU4 hc hcell
  go_wp2
  go_ret
  exact ⟨rfl, HU4.out.alloc _⟩
end Go.Proofs.YtmbbnjbohnobcaaDoor
