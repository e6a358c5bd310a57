/- slices.ContainsFunc over rows; the tests of package product on rows. -/
import Derived.Test.YtmbbnjbohnobcaaDoorCut
import Derived.Test.YtmbbnjbohnobcaaDoorProdG
import Derived.Test.YtmbbnjbohnobcaaDoorWhole
namespace Go.Proofs.YtmbbnjbohnobcaaDoor
open Go.RowKit Go.Sp
set_option maxHeartbeats 1000000
set_option maxRecDepth 20000

/-- The place of the first row that p says yes to; -1 if there is none. -/
def idxR (p : List Int → Bool) : List (List Int) → Nat → Int
  | [], _ => -1
  | x :: l, k => if p x = true then (k : Int) else idxR p l (k + 1)

set_option maxRecDepth 20000 in
theorem IndexFuncR (f : FuncId) (c : Value) (p : List Int → Bool) (v : Value) (rs : List (List Int)) (w : World) (hv : RowsAt w v rs)
    (hcf : ∀ args w, (callFunc f args).run Tryd.prog w = .ok (.enter f args) w)
    (hf : ∀ x, x ∈ rs → ∀ u w', Up w w' → IntsAt w' u x → Calls Tryd.prog f #[u, c] w' fun e w'' => e = .returned (.bool (p x)) ∧ Up w' w'') :
    Calls Tryd.prog 126 #[v, .func (.func f) #[] #[c]] w fun e w' => e = .returned (.int .i64 (idxR p rs 0)) ∧ Up w w' := by
  have HF := hid hf
  clear hf
  have HV := hid hv
  obtain ⟨hlen, a, cap, rfl, hc⟩ := hv
  clear hc
  obtain ⟨R, hR⟩ : ∃ R, idxR p rs 0 = R := ⟨_, rfl⟩
  rw [hR]
  have HR := hid hR
  clear hR
  go_enter Tryd.func126, Tryd.ntmps126
  go_wp2_with fail
  go_loopw [8] (fun vi wr => ∃ i : Nat, i ≤ rs.length ∧ vi = .int .i64 i ∧ idxR p rs 0 = idxR p (rs.drop i) i ∧ Up w wr) (fun vi _ => rs.length - (intOf vi).toNat)
  case atStart => exact ⟨0, by omega, rfl, rfl, Up.refl _⟩
  case round =>
    obtain ⟨i, hi, rfl, hI, hU⟩ := hrel
    have HI := hid hI
    clear hI
    by_cases hl : i < rs.length
    · obtain ⟨b, off, u, rfl, hx2, hI2⟩ := rows_cell HV.out hU hl
      have hd := rows_drop hl
      have hm := rows_mem hl
      have HI2 : Hid (idxR p rs 0 = if p (rs.getD i []) = true then (i : Int) else idxR p (rs.drop (i + 1)) (i + 1)) := hid (by rw [HI.out, hd]; rfl)
      clear HI hd
      have HE := hid (fun w' (h1 : Up w w') (h2 : IntsAt w' u (rs.getD i [])) => HF.out (rs.getD i []) hm u w' h1 h2)
      have HIx := hid hI2
      clear hm hI2
      generalize rs.getD i [] = x at *
      go_wp2_with fail
      refine (HE.out _ hU HIx.out).mono ?_
      rintro e w2 ⟨rfl, hU2⟩
      generalize p x = C at *
      cases C
      · go_wp2
        go_roundw
        case rel => exact ⟨i + 1, by omega, by go_num, by rw [HI2.out]; rfl, hU.trans hU2⟩
        case measure => simp [intOf]; omega
      · have hB2 : R = (i : Int) := by rw [← HR.out, HI2.out]; rfl
        have HB2 := hid hB2
        clear hB2
        go_wp2
        go_ret
        exact ⟨by rw [HB2.out]; rfl, hU.trans hU2⟩
    · have hB2 : R = -1 := by rw [← HR.out, HI.out, List.drop_eq_nil_of_le (by omega)]; rfl
      have hl2 : decide (i < rs.length) = false := by simpa using hl
      subst hB2
      go_wp2
      go_ret
      exact ⟨rfl, hU⟩

theorem idxR_nonneg (p : List Int → Bool) : ∀ (rs : List (List Int)) (k : Nat), decide (0 ≤ idxR p rs k) = rs.any p
  | [], _ => rfl
  | x :: l, k => by
    rw [idxR, List.any_cons]
    by_cases h : p x = true
    · rw [if_pos h, h]; simp
    · rw [if_neg h, idxR_nonneg p l (k + 1)]; simp [h]

theorem ContainsFuncR (f : FuncId) (c : Value) (p : List Int → Bool) (v : Value) (rs : List (List Int)) (w : World) (hv : RowsAt w v rs)
    (hcf : ∀ args w, (callFunc f args).run Tryd.prog w = .ok (.enter f args) w)
    (hf : ∀ x, x ∈ rs → ∀ u w', Up w w' → IntsAt w' u x → Calls Tryd.prog f #[u, c] w' fun e w'' => e = .returned (.bool (p x)) ∧ Up w' w'') :
    Calls Tryd.prog 71 #[v, .func (.func f) #[] #[c]] w fun e w' => e = .returned (.bool (rs.any p)) ∧ Up w w' := by
  have HI := hid (IndexFuncR f c p v rs w hv hcf hf)
  have HN := hid (idxR_nonneg p rs 0)
  clear hf hv hcf
  generalize idxR p rs 0 = k at *
  go_enter Tryd.func71, Tryd.ntmps71
  go_wp2_with fail
  refine HI.out.mono ?_
  rintro e w2 ⟨rfl, hU2⟩
  go_wp2
  go_ret
  exact ⟨by rw [← HN.out]; rfl, hU2⟩

theorem rows_len (r : List Int) (u a : Value) (b m : Nat) (w : World) (hu : IntsAt w u r) (ha : ∃ ad cap, a = .slice ad m cap) (hm : m ≤ 9223372036854775807) (hb : w.cell? ⟨b, 0, none⟩ = some a) :
    Calls Tryd.prog 72 #[u, .pointer (some ⟨b, 0, none⟩)] w fun e w' => e = .returned (.bool (decide (r.length ≠ m))) ∧ Up w w' := by
  obtain ⟨ad, cap, rfl⟩ := ha
  obtain ⟨l1, a1, cp1, rfl, _⟩ := hu
  obtain ⟨n, hn⟩ : ∃ n, r.length = n := ⟨_, rfl⟩
  rw [hn] at l1
  rw [hn]
  clear hn
  by_cases h : n = m
  · subst h
    go_enter Tryd.func72, Tryd.ntmps72
    go_wp2
    go_ret
    exact ⟨by simp, Up.refl w⟩
  · have d1 : (n != m) = true := by simpa using h
    have d2 : ((n : Int) != (m : Int)) = true := by simp; omega
    have d3 : decide (n ≠ m) = true := by simpa using h
    rw [d3]
    clear h d3
    go_enter Tryd.func72, Tryd.ntmps72
    go_wp2
    go_ret
    exact ⟨rfl, Up.refl w⟩

theorem rows_els (P Q G : Int) (r : List Int) (u : Value) (b : Nat) (w : World) (hP : -9223372036854775808 ≤ P) (hQ : Q ≤ 9223372036854775807) (hT : Tab w) (hg : gvB P Q G = true) (hu : IntsAt w u r) (hb : GrpAt w b P Q G) :
    Calls Tryd.prog 73 #[u, .pointer (some ⟨b, 0, none⟩)] w fun e w' => e = .returned (.bool (!r.all (elB P Q))) ∧ Up w w' := by
  have HE := hid (elements_ok P Q G u r w hP hQ hT hg hu)
  obtain ⟨X, hX⟩ : ∃ X, r.all (elB P Q) = X := ⟨_, rfl⟩
  rw [hX] at HE
  rw [hX]
  obtain ⟨c0, c1, c2⟩ := hb
  clear hT hg hu hX
  go_enter Tryd.func73, Tryd.ntmps73
  go_wp2_with fail
  refine HE.out.mono ?_
  rintro e w1 ⟨rfl, hU1⟩
  cases X
  · go_wp2
    go_ret
    exact ⟨rfl, hU1⟩
  · go_wp2
    go_ret
    exact ⟨rfl, hU1⟩
end Go.Proofs.YtmbbnjbohnobcaaDoor
