/- product.Rows. -/
import Derived.Test.YtmbbnjbohnobcaaDoorRowA
import Derived.Test.YtmbbnjbohnobcaaDoorOwnB
namespace Go.Proofs.YtmbbnjbohnobcaaDoor
open Go.RowKit Go.Sp
set_option maxHeartbeats 2000000
set_option maxRecDepth 20000

/-- The error of the products of rows. -/
def rsE (P Q G : Int) (rs : List (List Int)) (es : List Int) : Int :=
  if gvB P Q G = true ∧ (rs.any fun r => decide (r.length ≠ es.length)) = false then
    (if 100 < rs.length ∨ 100 < es.length then 5 else if es.all (exB Q) = true ∧ (rs.any fun r => !r.all (elB P Q)) = false then 0 else 2) else 1
/-- The products of rows. -/
def rsL (P Q : Int) (rs : List (List Int)) (es : List Int) : List Int := rs.map fun r => pfold P Q 1 r es

def RowsOut (P Q G : Int) (rs : List (List Int)) (es : List Int) (w : World) (e : Ending) (w' : World) : Prop :=
  ∃ v, e = .returned (.tuple #[v, .int .i64 (rsE P Q G rs es)]) ∧ OwnI w' w.heap.size v (if rsE P Q G rs es = 0 then rsL P Q rs es else []) ∧ Up w w'

theorem own_nil (w : World) (B : Nat) : OwnI w B (.slice none 0 0) [] := ⟨by simp, .inl ⟨rfl, rfl⟩⟩

theorem rsL_take (P Q : Int) (rs : List (List Int)) (es : List Int) {i : Nat} (hi : i < rs.length) : rsL P Q (rs.take (i + 1)) es = rsL P Q (rs.take i) es ++ [pfold P Q 1 (rs.getD i []) es] := by
  unfold rsL
  rw [List.take_succ_eq_append_getElem hi, List.map_append]
  simp [hi]

theorem Rows_any (P Q G : Int) (v1 v2 : Value) (rs : List (List Int)) (es : List Int) (w : World) (hP : -9223372036854775808 ≤ P) (hQ : Q ≤ 9223372036854775807) (hT : Tab w) (h1 : RowsAt w v1 rs) (h2 : IntsAt w v2 es) :
    Calls Tryd.prog 19 #[grp P Q G, v1, v2] w (RowsOut P Q G rs es w) := by
  have HT := hid hT
  have HI1 := hid h1
  have HI2 := hid h2
  obtain ⟨E, hE⟩ : ∃ E, rsE P Q G rs es = E := ⟨_, rfl⟩
  have HO : Hid (RowsOut P Q G rs es w = fun e w' => ∃ v, e = .returned (.tuple #[v, .int .i64 E]) ∧ OwnI w' w.heap.size v (if E = 0 then rsL P Q rs es else []) ∧ Up w w') := hid (by unfold RowsOut; rw [hE])
  have HE : Hid (E = if gvB P Q G = true ∧ (rs.any fun r => decide (r.length ≠ es.length)) = false then (if 100 < rs.length ∨ 100 < es.length then 5 else if es.all (exB Q) = true ∧ (rs.any fun r => !r.all (elB P Q)) = false then 0 else 2) else 1) := hid (by rw [← hE]; rfl)
  obtain ⟨l1, a1, cp1, rfl, _⟩ := h1
  obtain ⟨l2, a2, cp2, rfl, _⟩ := h2
  obtain ⟨n, hn⟩ : ∃ n, rs.length = n := ⟨_, rfl⟩
  obtain ⟨m, hm⟩ : ∃ m, es.length = m := ⟨_, rfl⟩
  have HN := hid hn
  have HM := hid hm
  rw [hn] at HI1 l1
  rw [hm] at HI2 l2
  rw [hn, hm]
  obtain ⟨i0, hi, hz0, hz1, hz2⟩ := info_parts infoInt
  have HBad : Hid (E ≠ 0 → ∀ w', Up w w' → RowsOut P Q G rs es w (.returned (.tuple #[.slice none 0 0, .int .i64 E])) w') := hid (fun h w' hU => by
    rw [HO.out]
    exact ⟨_, rfl, by rw [if_neg h]; exact own_nil _ _, hU⟩)
  clear hT hE hn hm
  rw [show RowsOut P Q G rs es w = RowsOut P Q G rs es w from rfl]
  by_cases hg : gvB P Q G = true
  case neg =>
    have hE : E = 1 := by rw [HE.out, if_neg (fun h => hg h.1)]
    subst hE
    have hg' : gvB P Q G = false := by simpa using hg
    have Hg := hid hg'
    clear hg hg'
    go_enter Tryd.func19, Tryd.ntmps19
    go_wp2_with fail
    refine (Valid_any P Q G _ hP hQ (HT.out.up (((Up.refl w).alloc _).alloc _))).mono ?_
    rintro e w1 ⟨rfl, hU1⟩
    rw [Hg.out]
    go_wp2
    go_ret2
    exact HBad.out (by omega) _ ((((Up.refl w).alloc _).alloc _).trans hU1)
  have Hg := hid hg
  have g := gv_iff.1 hg
  have g1 := g.P61
  have g2 := g.P4
  have g3 := g.Q3
  have HE1 : Hid (E = if (rs.any fun r => decide (r.length ≠ es.length)) = false then (if 100 < rs.length ∨ 100 < es.length then 5 else if es.all (exB Q) = true ∧ (rs.any fun r => !r.all (elB P Q)) = false then 0 else 2) else 1) := hid (by rw [HE.out]; simp [hg])
  clear hg g HE
  go_enter Tryd.func19, Tryd.ntmps19
  go_wp2_with fail
  have HG0 := hid (box_reads (w := w) (P := P) (Q := Q) (G := G) rfl ((Up.refl _).alloc (.cells #[.slice a2 m cp2] 24)))
  have HX0 := hid (second_cell (w := w) (o := .cells #[.int .i64 P, .int .i64 Q, .int .i64 G] 23) (t := 24) (u := .slice a2 m cp2) (Up.refl _))
  refine (Valid_any P Q G _ hP hQ (HT.out.up (((Up.refl w).alloc _).alloc _))).mono ?_
  rintro e w1 ⟨rfl, hU1⟩
  rw [Hg.out]
  have HG1 := hid (HG0.out.up hU1)
  have HX1 := hid (cellUp hU1 HX0.out)
  have HU1 := hid ((((Up.refl w).alloc _).alloc _).trans hU1)
  clear hU1 HG0 HX0
  obtain ⟨c0, c1, c2⟩ := HG1.out
  go_wp2_with fail
  refine (ContainsFuncR 72 _ (fun r => decide (r.length ≠ es.length)) _ rs _ (HI1.out.up HU1.out) (fun _ _ => by kernel_rfl) (fun r _ u w' hU' hIu => by
    have h := rows_len r u (.slice a2 m cp2) _ m w' hIu ⟨_, _, rfl⟩ l2 (cellUp hU' HX1.out)
    rw [HM.out]
    exact h)).mono ?_
  rintro e w2 ⟨rfl, hU2⟩
  have HG2 := hid (HG1.out.up hU2)
  have HX2 := hid (cellUp hU2 HX1.out)
  have HU2 := hid (HU1.out.trans hU2)
  clear hU2 c0 c1 c2 HG1 HX1
  obtain ⟨X, hX⟩ : ∃ X, (rs.any fun r => decide (r.length ≠ es.length)) = X := ⟨_, rfl⟩
  have HXl := hid hX
  rw [hX] at HE1
  rw [hX]
  clear hX
  cases X
  case true =>
    have hE : E = 1 := by rw [HE1.out]; rfl
    subst hE
    go_wp2
    go_ret2
    exact HBad.out (by omega) _ HU2.out
  have HE2 : Hid (E = if 100 < n ∨ 100 < m then 5 else if es.all (exB Q) = true ∧ (rs.any fun r => !r.all (elB P Q)) = false then 0 else 2) := hid (by rw [HE1.out, if_pos rfl, HN.out, HM.out])
  clear HE1
  have x2 := HX2.out
  by_cases hb1 : 100 < n
  case pos =>
    have hE : E = 5 := by rw [HE2.out, if_pos (.inl hb1)]
    subst hE
    have d1 : decide (100 < n) = true := by simpa using hb1
    go_wp2
    go_ret2
    exact HBad.out (by omega) _ HU2.out
  have d1 : decide (100 < n) = false := by simpa using hb1
  by_cases hb2 : 100 < m
  case pos =>
    have hE : E = 5 := by rw [HE2.out, if_pos (.inr hb2)]
    subst hE
    have d2 : decide (100 < m) = true := by simpa using hb2
    go_wp2
    go_ret2
    exact HBad.out (by omega) _ HU2.out
  have d2 : decide (100 < m) = false := by simpa using hb2
  have HE3 : Hid (E = if es.all (exB Q) = true ∧ (rs.any fun r => !r.all (elB P Q)) = false then 0 else 2) := hid (by rw [HE2.out, if_neg (by omega)])
  clear HE2
  obtain ⟨c0, c1, c2⟩ := HG2.out
  go_wp2_with fail
  refine (exponents_any P Q G _ es _ (HI2.out.up HU2.out)).mono ?_
  rintro e w3 ⟨rfl, hU3⟩
  have HG3 := hid (HG2.out.up hU3)
  have HX3 := hid (cellUp hU3 HX2.out)
  have HU3 := hid (HU2.out.trans hU3)
  clear hU3 c0 c1 c2 x2 HG2 HX2
  obtain ⟨Y, hY⟩ : ∃ Y, es.all (exB Q) = Y := ⟨_, rfl⟩
  have HY := hid hY
  rw [hY] at HE3
  rw [hY]
  clear hY
  cases Y
  case false =>
    have hE : E = 2 := by rw [HE3.out, if_neg (by simp)]
    subst hE
    go_wp2
    go_ret2
    exact HBad.out (by omega) _ HU3.out
  go_wp2_with fail
  refine (ContainsFuncR 73 _ (fun r => !r.all (elB P Q)) _ rs _ (HI1.out.up HU3.out) (fun _ _ => by kernel_rfl) (fun r _ u w' hU' hIu => rows_els P Q G r u _ w' hP hQ (HT.out.up (HU3.out.trans hU')) Hg.out hIu (HG3.out.up hU'))).mono ?_
  rintro e w4 ⟨rfl, hU4⟩
  have HG4 := hid (HG3.out.up hU4)
  have HX4 := hid (cellUp hU4 HX3.out)
  have HU4 := hid (HU3.out.trans hU4)
  clear hU4 HG3 HX3
  obtain ⟨Z, hZ⟩ : ∃ Z, (rs.any fun r => !r.all (elB P Q)) = Z := ⟨_, rfl⟩
  have HZ := hid hZ
  rw [hZ] at HE3
  rw [hZ]
  clear hZ
  cases Z
  case true =>
    have hE : E = 2 := by rw [HE3.out, if_neg (by simp)]
    subst hE
    go_wp2
    go_ret2
    exact HBad.out (by omega) _ HU4.out
  have hE : E = 0 := by rw [HE3.out, if_pos (by simp)]
  subst hE
  have HRow : Hid (∀ i, i < n → (∀ b ∈ rs.getD i [], elB P Q b = true) ∧ es.length = (rs.getD i []).length) := hid (fun i hi => by
    have hm := rows_mem (rs := rs) (i := i) (by rw [HN.out]; exact hi)
    have h1 := List.any_eq_false.1 HZ.out _ hm
    have h2 := List.any_eq_false.1 HXl.out _ hm
    simp at h1 h2
    exact ⟨h1, h2.symm⟩)
  have HOk : Hid (∀ v w', OwnI w' w.heap.size v (rsL P Q rs es) → Up w w' → RowsOut P Q G rs es w (.returned (.tuple #[v, .int .i64 0])) w') := hid (fun v w' h hU => by
    rw [HO.out]
    exact ⟨v, rfl, by rw [if_pos rfl]; exact h, hU⟩)
  clear HE3 HBad HO
  obtain ⟨o, ho⟩ : ∃ o, w.heap.size = o := ⟨_, rfl⟩
  have HOo := hid ho
  rw [ho] at HG4 HX4
  rw [ho]
  clear ho
  obtain ⟨B4, hB4⟩ : ∃ B, w4.heap.size = B := ⟨_, rfl⟩
  have HB4 := hid hB4
  have hs4 : o + 1 < w4.heap.size := cell_lt HX4.out
  rw [hB4] at hs4
  clear hB4
  go_wp2_with fail
  go_loopw [8, 43] (fun vo vi wr => ∃ i : Nat, i ≤ n ∧ vi = .int .i64 i ∧ Hid (OwnI wr B4 vo (rsL P Q (rs.take i) es)) ∧ Hid (Up w4 wr)) (fun _ vi _ => n - (intOf vi).toNat)
  case atStart => exact ⟨0, by omega, rfl, hid (own_nil _ _), hid (Up.refl w4)⟩
  case round =>
    obtain ⟨i, hin, rfl, HOw, HU⟩ := hrel
    obtain ⟨c0, c1, c2⟩ := HG4.out.up HU.out
    have x2 := cellUp HU.out HX4.out
    by_cases hl : i < n
    · have hl1 : i < rs.length := by rw [HN.out]; exact hl
      obtain ⟨b1, o1, u, rfl, k1, hIu⟩ := rows_cell HI1.out (HU4.out.trans HU.out) hl1
      obtain ⟨hr1, hr2⟩ := HRow.out i hl
      have HIu := hid hIu
      have HR1 := hid hr1
      have HR2 := hid hr2
      have HTk := hid (rsL_take P Q rs es hl1)
      have hlen : (rsL P Q (rs.take i) es).length = i := by simp [rsL]; omega
      have HLen := hid hlen
      clear hl1 hIu hr1 hr2 hlen
      obtain ⟨_, ua, uc, hu, _⟩ := HIu.out
      subst hu
      generalize rs.getD i [] = r at *
      have hlu : r.length = m := by rw [← HR2.out, HM.out]
      rw [hlu] at HIu k1
      clear hlu
      go_wp2_with fail
      refine (powers_ok P Q G _ _ r es _ hQ (HT.out.up (HU4.out.trans HU.out)) Hg.out HR1.out (ex_range hQ HY.out) HR2.out HIu.out (HI2.out.up (HU4.out.trans HU.out))).mono ?_
      rintro e w6 ⟨rfl, hU6⟩
      obtain ⟨K, hK⟩ : ∃ K, pfold P Q 1 r es = K := ⟨_, rfl⟩
      rw [hK] at HTk
      rw [hK]
      have HU6 := hid (HU.out.trans hU6)
      have HO6 := hid (HOw.out.up hU6)
      clear hU6 hK HOw c0 c1 c2 x2 k1
      have hown := HO6.out.row HLen.out
      have hsz : B4 ≤ w6.heap.size := by have := HU6.out.size; rw [HB4.out] at this; exact this
      go_wp2_with (at_builtin; refine wpList_append_own _ rfl _ _ 24 rfl B4 3 i0 (.int .i64 0) 1 8 Tryd.underlying24 hi hz0 hz1 hz2 rfl (by decide) _ _ _ rfl (hown.alloc _) ⟨w6.heap.size, 0, none⟩ 1 1 [.int .i64 K] rfl rfl ?c1 ?c2 ?c3 ?c4 ?c5 ?_)
      case c1 => go_simp
      case c2 => intro y hy; simp at hy; subst hy; rfl
      case c3 => unfold maxLen; omega
      case c4 => omega
      case c5 => simp; omega
      intro v' w7 hown' hgrow _
      obtain ⟨hO7, hU7, hB7⟩ := appended HLen.out HO6.out hown' hgrow HU6.out (by rw [HB4.out]; omega) hsz
      rw [← HTk.out] at hO7
      have HO7 := hid hO7
      have HU7 := hid hU7
      clear hO7 hU7 hB7 hown' hgrow hown
      go_wp2_with fail
      go_roundw
      case rel => exact ⟨i + 1, by omega, by go_num, HO7, HU7⟩
      case measure => simp [intOf]; omega
    · obtain rfl : i = n := by omega
      have HFin := hid (HOw.out)
      go_wp2
      go_ret2
      refine HOk.out _ _ ?_ (HU4.out.trans HU.out)
      have h := HFin.out
      rw [List.take_of_length_le (by rw [HN.out]; omega)] at h
      exact h.mono (by rw [HOo.out]; omega)
end Go.Proofs.YtmbbnjbohnobcaaDoor
