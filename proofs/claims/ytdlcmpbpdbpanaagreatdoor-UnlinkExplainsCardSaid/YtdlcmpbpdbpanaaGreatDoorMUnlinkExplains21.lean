/- Package product and specieref12: products of powers, products of elements. specieref12: products of powers, products of elements; product.Join. -/
import Derived.Test.YtdlcmpbpdbpanaaGreatDoorMUnlinkExplains20
import Derived.Deep.RegionWith
namespace Go.Proofs.YtdlcmpbpdbpanaaGreatDoor
open Go.RowKit Go.Sp
set_option maxHeartbeats 1000000
set_option maxRecDepth 20000

theorem ex_range {Q : Int} {es : List Int} (hQ : Q ≤ 9223372036854775807) (h : es.all (exB Q) = true) : ∀ x ∈ es, -9223372036854775808 ≤ x ∧ x ≤ 9223372036854775807 := by
  intro x hx
  have := exB_iff.1 (List.all_eq_true.1 h x hx)
  omega

theorem Product_any (P Q G : Int) (v1 v2 : Value) (bs es : List Int) (w : World) (hP : -9223372036854775808 ≤ P) (hQ : Q ≤ 9223372036854775807) (hT : Tab w) (h1 : IntsAt w v1 bs) (h2 : IntsAt w v2 es) :
    Calls Tryz.prog 185 #[grp P Q G, v1, v2] w fun e w' => e = .returned (.tuple #[.int .i64 (prV P Q G bs es), .int .i64 (prE P Q G bs es)]) ∧ Up w w' := by
  have HT := hid hT
  have HI1 := hid h1
  have HI2 := hid h2
  obtain ⟨l1, a1, cp1, rfl, _⟩ := h1
  obtain ⟨l2, a2, cp2, rfl, _⟩ := h2
  have HE : Hid (prE P Q G bs es = if gvB P Q G = true ∧ bs.length = es.length then (if 100 < bs.length then 5 else if bs.all (elB P Q) = true ∧ es.all (exB Q) = true then 0 else 2) else 1) := hid rfl
  have HV : Hid (prV P Q G bs es = if prE P Q G bs es = 0 then pfold P Q 1 bs es else 0) := hid rfl
  generalize prE P Q G bs es = E at *
  generalize prV P Q G bs es = V at *
  have HC1 : Hid (bs.all (elB P Q) = bs.all (elB P Q)) := hid rfl
  obtain ⟨n, hn⟩ : ∃ n, bs.length = n := ⟨_, rfl⟩
  obtain ⟨m, hm⟩ : ∃ m, es.length = m := ⟨_, rfl⟩
  have HN := hid hn
  have HM := hid hm
  rw [hn] at HE HI1 l1
  rw [hm] at HE HI2 l2
  rw [hn, hm]
  clear hT hn hm HC1
  by_cases hg : gvB P Q G = true
  case neg =>
    have hE : E = 1 := by rw [HE.out, if_neg (fun h => hg h.1)]
    have hV : V = 0 := by rw [HV.out, hE]; rfl
    subst hE hV
    have hg' : gvB P Q G = false := by simpa using hg
    have Hg := hid hg'
    clear hg hg'
    go_enter Tryz.func185, Tryz.ntmps185
    go_wp2_with fail
    refine (Valid_any P Q G _ hP hQ (HT.out.up ((Up.refl w).alloc _))).mono ?_
    rintro e w1 ⟨rfl, hU1⟩
    rw [Hg.out]
    go_wp2
    go_ret2
    exact ⟨rfl, ((Up.refl w).alloc _).trans hU1⟩
  have Hg := hid hg
  by_cases he : n = m
  case neg =>
    have hE : E = 1 := by rw [HE.out, if_neg (fun h => he h.2)]
    have hV : V = 0 := by rw [HV.out, hE]; rfl
    subst hE hV
    have d1 : (n != m) = true := by simpa using he
    have d2 : ((n : Int) != (m : Int)) = true := by simp; omega
    clear hg he
    go_enter Tryz.func185, Tryz.ntmps185
    go_wp2_with fail
    refine (Valid_any P Q G _ hP hQ (HT.out.up ((Up.refl w).alloc _))).mono ?_
    rintro e w1 ⟨rfl, hU1⟩
    rw [Hg.out]
    go_wp2
    go_ret2
    exact ⟨rfl, ((Up.refl w).alloc _).trans hU1⟩
  obtain rfl := he
  have HE2 : Hid (E = if 100 < n then 5 else if bs.all (elB P Q) = true ∧ es.all (exB Q) = true then 0 else 2) := hid (by rw [HE.out, if_pos ⟨hg, rfl⟩])
  clear hg HE
  by_cases hb : 100 < n
  case pos =>
    have hE : E = 5 := by rw [HE2.out, if_pos hb]
    have hV : V = 0 := by rw [HV.out, hE]; rfl
    subst hE hV
    go_enter Tryz.func185, Tryz.ntmps185
    go_wp2_with fail
    refine (Valid_any P Q G _ hP hQ (HT.out.up ((Up.refl w).alloc _))).mono ?_
    rintro e w1 ⟨rfl, hU1⟩
    rw [Hg.out]
    have d1 : decide (100 < n) = true := by simpa using hb
    go_wp2
    go_ret2
    exact ⟨rfl, ((Up.refl w).alloc _).trans hU1⟩
  have d1 : decide (100 < n) = false := by simpa using hb
  have HE3 : Hid (E = if bs.all (elB P Q) = true ∧ es.all (exB Q) = true then 0 else 2) := hid (by rw [HE2.out, if_neg hb])
  clear HE2
  go_enter Tryz.func185, Tryz.ntmps185
  go_wp2_with fail
  refine (Valid_any P Q G _ hP hQ (HT.out.up ((Up.refl w).alloc _))).mono ?_
  rintro e w1 ⟨rfl, hU1⟩
  rw [Hg.out]
  have HG := hid (box_reads rfl hU1)
  have HU1 := hid (((Up.refl w).alloc _).trans hU1)
  clear hU1
  obtain ⟨c0, c1, c2⟩ := HG.out
  go_wp2_with fail
  refine (elements_ok P Q G _ bs _ hP hQ (HT.out.up HU1.out) Hg.out (HI1.out.up HU1.out)).mono ?_
  rintro e w2 ⟨rfl, hU2⟩
  have HU2 := hid (HU1.out.trans hU2)
  obtain ⟨c0, c1, c2⟩ := HG.out.up hU2
  have HG2 := hid (HG.out.up hU2)
  clear hU2
  obtain ⟨X, hX⟩ : ∃ X, bs.all (elB P Q) = X := ⟨_, rfl⟩
  have HX := hid hX
  rw [hX] at HE3
  rw [hX]
  clear hX
  cases X
  case false =>
    have hE : E = 2 := by rw [HE3.out, if_neg (by simp)]
    have hV : V = 0 := by rw [HV.out, hE]; rfl
    subst hE hV
    go_wp2
    go_ret2
    exact ⟨rfl, HU2.out⟩
  go_wp2_with fail
  refine (exponents_any P Q G _ es _ (HI2.out.up HU2.out)).mono ?_
  rintro e w3 ⟨rfl, hU3⟩
  have HU3 := hid (HU2.out.trans hU3)
  obtain ⟨c0, c1, c2⟩ := HG2.out.up hU3
  clear hU3
  obtain ⟨Y, hY⟩ : ∃ Y, es.all (exB Q) = Y := ⟨_, rfl⟩
  have HY := hid hY
  rw [hY] at HE3
  rw [hY]
  clear hY
  cases Y
  case false =>
    have hE : E = 2 := by rw [HE3.out, if_neg (by simp)]
    have hV : V = 0 := by rw [HV.out, hE]; rfl
    subst hE hV
    go_wp2
    go_ret2
    exact ⟨rfl, HU3.out⟩
  have hE : E = 0 := by rw [HE3.out, if_pos (by simp)]
  have hV : V = pfold P Q 1 bs es := by rw [HV.out, hE]; rfl
  have HVV := hid hV
  subst hE
  clear hV HE3 HV
  go_wp2_with fail
  refine (powers_ok P Q G _ _ bs es _ hQ (HT.out.up HU3.out) Hg.out (List.all_eq_true.1 HX.out) (ex_range hQ HY.out) (by rw [HN.out, HM.out]) (HI1.out.up HU3.out) (HI2.out.up HU3.out)).mono ?_
  rintro e w4 ⟨rfl, hU4⟩
  rw [← HVV.out]
  go_wp2
  go_ret2
  exact ⟨rfl, HU3.out.trans hU4⟩

end Go.Proofs.YtdlcmpbpdbpanaaGreatDoor
namespace Go.Proofs.YtdlcmpbpdbpanaaGreatDoor
open Go.RowKit Go.Sp
set_option maxHeartbeats 1000000
set_option maxRecDepth 20000

end Go.Proofs.YtdlcmpbpdbpanaaGreatDoor
