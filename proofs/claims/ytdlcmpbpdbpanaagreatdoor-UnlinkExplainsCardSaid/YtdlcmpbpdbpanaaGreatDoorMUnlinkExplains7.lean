/- Library functions that are handed a function. The helpers of the statements of layer 10. -/
import Derived.Test.YtdlcmpbpdbpanaaGreatDoorMUnlinkExplains6
namespace Go.Proofs.YtdlcmpbpdbpanaaGreatDoor
open Go.RowKit Go.Sp
set_option maxHeartbeats 400000

/-- The place of the first number that p says yes to; -1 if there is none. -/
def idxI (p : Int → Bool) : List Int → Nat → Int
  | [], _ => -1
  | x :: l, k => if p x = true then (k : Int) else idxI p l (k + 1)

set_option maxRecDepth 20000 in
theorem IndexFunc_any (f : FuncId) (c : Value) (p : Int → Bool) (v : Value) (xs : List Int) (w : World) (hv : IntsAt w v xs)
    (hcf : ∀ args w, (callFunc f args).run Tryz.prog w = .ok (.enter f args) w)
    (hf : ∀ x, x ∈ xs → ∀ w', Up w w' → Calls Tryz.prog f #[.int .i64 x, c] w' fun e w'' => e = .returned (.bool (p x)) ∧ Up w' w'') :
    Calls Tryz.prog 258 #[v, .func (.func f) #[] #[c]] w fun e w' => e = .returned (.int .i64 (idxI p xs 0)) ∧ Up w w' := by
  have HF := hid hf
  clear hf
  obtain ⟨hlen, a, cap, rfl, hc⟩ := hv
  have HC := hid hc
  clear hc
  obtain ⟨R, hR⟩ : ∃ R, idxI p xs 0 = R := ⟨_, rfl⟩
  rw [hR]
  have HR := hid hR
  clear hR
  go_enter Tryz.func258, Tryz.ntmps258
  go_wp2_with fail
  go_loopw [8] (fun vi wr => ∃ i : Nat, i ≤ xs.length ∧ vi = .int .i64 i ∧ idxI p xs 0 = idxI p (xs.drop i) i ∧ Up w wr) (fun vi _ => xs.length - (intOf vi).toNat)
  case atStart => exact ⟨0, by omega, rfl, rfl, Up.refl _⟩
  case round =>
    obtain ⟨i, hi, rfl, hI, hU⟩ := hrel
    have HI := hid hI
    clear hI
    by_cases hl : i < xs.length
    · obtain ⟨b, off, rfl, hcell⟩ := HC.out (by rintro rfl; simp at hl)
      have hx := hcell i hl
      have hx2 : wr.cell? ⟨b, off + i, none⟩ = some (.int .i64 (xs.getD i 0)) := by
        rw [hU.cell (cell_lt hx)]; exact hx
      have hd : xs.drop i = xs.getD i 0 :: xs.drop (i + 1) := by
        rw [List.drop_eq_getElem_cons hl]; simp [hl]
      have hm : xs.getD i 0 ∈ xs := by simp [hl]
      have HI2 : Hid (idxI p xs 0 = if p (xs.getD i 0) = true then (i : Int) else idxI p (xs.drop (i + 1)) (i + 1)) := hid (by rw [HI.out, hd]; rfl)
      clear HI hd hx hcell
      have HE := hid (HF.out (xs.getD i 0) hm)
      clear hm
      generalize xs.getD i 0 = x at *
      go_wp2_with fail
      refine (HE.out _ hU).mono ?_
      rintro e w2 ⟨rfl, hU2⟩
      generalize p x = C at *
      cases C
      · go_wp2
        go_roundw
        case rel => exact ⟨i + 1, by omega, by go_num, by rw [HI2.out]; rfl, hU.trans hU2⟩
        case measure => simp [intOf]; omega
      · have hB2 : R = (i : Int) := by rw [← HR.out, HI2.out]; rfl
        have HB2 := hid hB2
        clear hB2
        go_wp2
        go_ret
        exact ⟨by rw [HB2.out]; rfl, hU.trans hU2⟩
    · have hB2 : R = -1 := by rw [← HR.out, HI.out, List.drop_eq_nil_of_le (by omega)]; rfl
      have hl2 : decide (i < xs.length) = false := by simpa using hl
      subst hB2
      go_wp2
      go_ret
      exact ⟨rfl, hU⟩

theorem idxI_nonneg (p : Int → Bool) : ∀ (xs : List Int) (k : Nat), decide (0 ≤ idxI p xs k) = xs.any p
  | [], _ => rfl
  | x :: l, k => by
    rw [idxI, List.any_cons]
    by_cases h : p x = true
    · rw [if_pos h, h]; simp
    · rw [if_neg h, idxI_nonneg p l (k + 1)]; simp [h]

theorem ContainsFunc_any (f : FuncId) (c : Value) (p : Int → Bool) (v : Value) (xs : List Int) (w : World) (hv : IntsAt w v xs)
    (hcf : ∀ args w, (callFunc f args).run Tryz.prog w = .ok (.enter f args) w)
    (hf : ∀ x, x ∈ xs → ∀ w', Up w w' → Calls Tryz.prog f #[.int .i64 x, c] w' fun e w'' => e = .returned (.bool (p x)) ∧ Up w' w'') :
    Calls Tryz.prog 245 #[v, .func (.func f) #[] #[c]] w fun e w' => e = .returned (.bool (xs.any p)) ∧ Up w w' := by
  have HI := hid (IndexFunc_any f c p v xs w hv hcf hf)
  have HN := hid (idxI_nonneg p xs 0)
  clear hf hv hcf
  generalize idxI p xs 0 = k at *
  go_enter Tryz.func245, Tryz.ntmps245
  go_wp2_with fail
  refine HI.out.mono ?_
  rintro e w2 ⟨rfl, hU2⟩
  go_wp2
  go_ret
  exact ⟨by rw [← HN.out]; rfl, hU2⟩
end Go.Proofs.YtdlcmpbpdbpanaaGreatDoor
namespace Go.Proofs.YtdlcmpbpdbpanaaGreatDoor
open Go.RowKit Go.Sp
set_option maxHeartbeats 400000

/-- A group in a variable's block. -/
def GrpAt (w : World) (b : Nat) (P Q G : Int) : Prop :=
  w.cell? ⟨b, 0, none⟩ = some (.int .i64 P) ∧ w.cell? ⟨b, 1, none⟩ = some (.int .i64 Q) ∧ w.cell? ⟨b, 2, none⟩ = some (.int .i64 G)

theorem GrpAt.up {w w' : World} {b : Nat} {P Q G : Int} (h : GrpAt w b P Q G) (hU : Up w w') : GrpAt w' b P Q G := by
  obtain ⟨h0, h1, h2⟩ := h
  have hb := cell_lt h0
  exact ⟨by rw [hU.cell hb]; exact h0, by rw [hU.cell hb]; exact h1, by rw [hU.cell hb]; exact h2⟩

theorem any_not (p : Int → Bool) : ∀ xs : List Int, xs.any (fun x => !p x) = !xs.all p
  | [] => rfl
  | x :: l => by rw [List.any_cons, List.all_cons, any_not p l]; simp

end Go.Proofs.YtdlcmpbpdbpanaaGreatDoor
