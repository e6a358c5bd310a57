/- The helpers of the statements of layer 10. -/
import Derived.Test.YtldodbffdegmiaaDoorFuncs
namespace Go.Proofs.YtldodbffdegmiaaDoor
open Go.RowKit Go.Sp
set_option maxHeartbeats 400000

/-- A group in a variable's block. -/
def GrpAt (w : World) (b : Nat) (P Q G : Int) : Prop :=
  w.cell? ⟨b, 0, none⟩ = some (.int .i64 P) ∧ w.cell? ⟨b, 1, none⟩ = some (.int .i64 Q) ∧ w.cell? ⟨b, 2, none⟩ = some (.int .i64 G)

theorem GrpAt.up {w w' : World} {b : Nat} {P Q G : Int} (h : GrpAt w b P Q G) (hU : Up w w') : GrpAt w' b P Q G := by
  obtain ⟨h0, h1, h2⟩ := h
  have hb := cell_lt h0
  exact ⟨by rw [hU.cell hb]; exact h0, by rw [hU.cell hb]; exact h1, by rw [hU.cell hb]; exact h2⟩

theorem fault_in (P Q G x : Int) (b : Nat) (w : World) (hb : GrpAt w b P Q G) (hP : P < 2305843009213693952) (hQ0 : 0 ≤ Q) (hQ : Q ≤ 9223372036854775807) :
    Calls Tryd.prog 79 #[.int .i64 x, .pointer (some ⟨b, 0, none⟩)] w fun e w' => e = .returned (.bool (!elB P Q x)) ∧ Up w w' := by
  obtain ⟨c0, c1, c2⟩ := hb
  go_enter Tryd.func79, Tryd.ntmps79
  go_wp2_with fail
  refine (rMember_any P Q G x _ hP hQ0 hQ).mono ?_
  rintro e w1 ⟨rfl, hU1⟩
  go_wp2
  go_ret
  exact ⟨rfl, hU1⟩

theorem any_not (p : Int → Bool) : ∀ xs : List Int, xs.any (fun x => !p x) = !xs.all p
  | [] => rfl
  | x :: l => by rw [List.any_cons, List.all_cons, any_not p l]; simp

theorem fault_any (P Q G : Int) (v : Value) (xs : List Int) (w : World) (hP : -9223372036854775808 ≤ P) (hQ : Q ≤ 9223372036854775807) (hv : IntsAt w v xs) :
    Calls Tryd.prog 19 #[grp P Q G, v] w fun e w' => e = .returned (.int .i64 (chkI P Q G xs)) ∧ Up w w' := by
  have HK : Hid (chkI P Q G xs = if gvB P Q G = true then (if xs.all (elB P Q) = true then 0 else 2) else 1) := hid rfl
  have HV := hid hv
  clear hv
  generalize chkI P Q G xs = K at *
  go_enter Tryd.func19, Tryd.ntmps19
  go_wp2_with fail
  refine (rValid_any P Q G _ hP hQ).mono ?_
  rintro e w1 ⟨rfl, hU1⟩
  obtain ⟨hr1, hf1⟩ := hU1.reads
  have HG : Hid (GrpAt w1 w.heap.size P Q G) := hid ⟨by rw [hr1 _ _ (by simp)]; go_simp, by rw [hr1 _ _ (by simp)]; go_simp, by rw [hr1 _ _ (by simp)]; go_simp⟩
  have HU := hid (((Up.refl w).alloc _).trans hU1)
  clear hr1 hf1 hU1
  by_cases c : gvB P Q G = true
  · have g := gv_iff.1 c
    have g1 := g.P61
    have g2 := g.Q3
    clear g
    have HK2 : Hid (K = if xs.all (elB P Q) = true then 0 else 2) := hid (by rw [HK.out, if_pos c])
    clear HK
    go_wp2_with fail
    refine (ContainsFunc_any 79 _ (fun x => !elB P Q x) v xs _ (HV.out.up HU.out) (fun _ _ => by kernel_rfl) (fun x _ w' hU' => fault_in P Q G x _ w' (HG.out.up hU') g1 (by omega) hQ)).mono ?_
    rintro e w2 ⟨rfl, hU2⟩
    rw [any_not]
    generalize xs.all (elB P Q) = C at *
    cases C
    · go_wp2
      go_ret
      exact ⟨by rw [HK2.out]; rfl, HU.out.trans hU2⟩
    · go_wp2
      go_ret
      exact ⟨by rw [HK2.out]; rfl, HU.out.trans hU2⟩
  · have c' : gvB P Q G = false := by simpa using c
    have HK2 : Hid (K = 1) := hid (by rw [HK.out, if_neg c])
    clear HK c
    go_wp2
    go_ret
    exact ⟨by rw [HK2.out]; rfl, HU.out⟩
end Go.Proofs.YtldodbffdegmiaaDoor
