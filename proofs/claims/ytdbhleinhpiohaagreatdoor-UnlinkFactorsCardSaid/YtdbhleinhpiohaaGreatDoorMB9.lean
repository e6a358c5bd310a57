/- The reference's restrictive signatures: messages, keys, offers, answers. Restrictive signatures: factors, lists of elements, products, views. The reference's restrictive signatures: factors, views. Restrictive signatures: unblinding, in the program and in the reference. SHA-256 on integers, as both texts compute it. No program in sight. -/
import Derived.Test.YtdbhleinhpiohaaGreatDoorMB8
import Derived.WalkKit
import Derived.Laws.BitsAllLaws
namespace Go.Proofs.YtdbhleinhpiohaaGreatDoor
open Go.RowKit Go.Sp
set_option maxHeartbeats 2000000
set_option maxRecDepth 20000

theorem r25Scalar_any (P Q G x : Int) (w : World) :
    Calls Tryz.prog 56 #[grp P Q G, .int .i64 x] w fun e w' => e = .returned (.bool (exB Q x)) ∧ Up w w' := by
  have HB : Hid (exB Q x = (decide (0 ≤ x) && decide (x < Q))) := hid rfl
  generalize exB Q x = X at *
  by_cases c1 : x ≥ 0
  case neg =>
    have hB : X = false := by rw [HB.out]; simp; omega
    subst hB
    have d1 : decide (x ≥ 0) = false := by simpa using c1
    go_enter Tryz.func56, Tryz.ntmps56
    go_wp2
    go_ret
    exact ⟨rfl, (Up.refl w).alloc _⟩
  have d1 : decide (x ≥ 0) = true := by simpa using c1
  have HB2 : Hid (X = decide (x < Q)) := hid (by rw [HB.out, show decide (0 ≤ x) = true by simp; omega]; rfl)
  clear HB
  go_enter Tryz.func56, Tryz.ntmps56
  go_wp2
  go_ret
  exact ⟨by rw [HB2.out]; rfl, (Up.refl w).alloc _⟩

theorem r25Message_any (P Q G x : Int) (w : World) (g1 : P < 2305843009213693952) (g3 : 0 ≤ Q) (hQ : Q ≤ 9223372036854775807) :
    Calls Tryz.prog 54 #[grp P Q G, .int .i64 x] w fun e w' => e = .returned (.bool (gnB P Q x)) ∧ Up w w' := by
  by_cases hx : x = 1
  · have d1 : (x != 1) = false := by simpa using hx
    have hB : gnB P Q x = false := by simp [gnB, hx]
    rw [hB]
    clear hx hB
    go_enter Tryz.func54, Tryz.ntmps54
    go_wp2
    go_ret
    exact ⟨rfl, (Up.refl w).alloc _⟩
  · have d1 : (x != 1) = true := by simpa using hx
    have hB : gnB P Q x = elB P Q x := by simp [gnB, hx]
    rw [hB]
    clear hx hB
    go_enter Tryz.func54, Tryz.ntmps54
    go_wp2_with fail
    refine (rMember_any P Q G x _ g1 g3 hQ).mono ?_
    rintro e w3 ⟨rfl, hU3⟩
    go_wp2
    go_ret
    exact ⟨rfl, ((Up.refl w).alloc _).trans hU3⟩

theorem r25power_ok (P Q G a e : Int) (w : World) (h0 : 0 ≤ a) (h1 : a < P) (h2 : 0 ≤ e) (h3 : e ≤ 9223372036854775807) (g1 : P < 2305843009213693952) :
    Calls Tryz.prog 57 #[grp P Q G, .int .i64 a, .int .i64 e] w fun r w' => r = .returned (.int .i64 (pwi P a e)) ∧ Up w w' := by
  have HV : Hid (pwi P a e = pw a e.toNat P) := hid rfl
  go_enter Tryz.func57, Tryz.ntmps57
  go_wp2_with fail
  refine (rPow_ok a e P _ h0 h1 h2 h3 g1).mono ?_
  rintro r w3 ⟨rfl, rfl⟩
  go_wp2
  go_ret
  exact ⟨by rw [HV.out]; rfl, (Up.refl w).alloc _⟩

theorem r25Valid_any (P Q G A B C x y z : Int) (w : World) (hP : -9223372036854775808 ≤ P) (hQ : Q ≤ 9223372036854775807) :
    Calls Tryz.prog 21 #[bas P Q G A B C, bkey x y z] w fun e w' => e = .returned (.bool (kvB P Q G A B C x y z)) ∧ Up w w' := by
  have HB : Hid (kvB P Q G A B C x y z = (bvB P Q G A B C && (gnB P Q x && (gnB P Q y && gnB P Q z)))) := hid rfl
  generalize kvB P Q G A B C x y z = X at *
  go_enter Tryz.func21, Tryz.ntmps21
  go_wp2_with fail
  have HA := hid (bas_reads (o := .cells #[.int .i64 P, .int .i64 Q, .int .i64 G, .int .i64 A, .int .i64 B, .int .i64 C] 25) rfl ((Up.refl (w.alloc _)).alloc (.cells #[.int .i64 x, .int .i64 y, .int .i64 z] 27)))
  have HK := hid (three_reads (w := w) (o := .cells #[.int .i64 P, .int .i64 Q, .int .i64 G, .int .i64 A, .int .i64 B, .int .i64 C] 25) (x := x) (y := y) (z := z) (t := 27) (Up.refl _))
  refine (rbValid_any P Q G A B C _ hP hQ).mono ?_
  rintro e w1 ⟨rfl, hU1⟩
  have HA1 := hid (HA.out.up hU1)
  have HK1 := hid (HK.out.up hU1)
  have HU1 := hid ((((Up.refl w).alloc _).alloc _).trans hU1)
  clear hU1 HA HK
  obtain ⟨⟨c0, c1, c2⟩, c3, c4, c5⟩ := HA1.out
  obtain ⟨e0, e1, e2⟩ := HK1.out
  by_cases hg : bvB P Q G A B C = true
  case neg =>
    have hg' : bvB P Q G A B C = false := by simpa using hg
    have hX : X = false := by rw [HB.out, hg']; rfl
    subst hX
    rw [hg']
    clear hg hg'
    go_wp2
    go_ret
    exact ⟨rfl, HU1.out⟩
  have g := gv_iff.1 (bv_iff.1 hg).1
  have g1 := g.P61
  have g3 := g.Q3
  have HB1 : Hid (X = (gnB P Q x && (gnB P Q y && gnB P Q z))) := hid (by rw [HB.out, hg]; rfl)
  rw [hg]
  clear hg g HB
  go_wp2_with fail
  refine (r25Message_any P Q G x _ g1 (by omega) hQ).mono ?_
  rintro e w2 ⟨rfl, hU2⟩
  have HA2 := hid (HA1.out.up hU2)
  have HK2 := hid (HK1.out.up hU2)
  have HU2 := hid (HU1.out.trans hU2)
  clear hU2 c0 c1 c2 c3 c4 c5 e0 e1 e2 HA1 HK1
  obtain ⟨⟨c0, c1, c2⟩, c3, c4, c5⟩ := HA2.out
  obtain ⟨e0, e1, e2⟩ := HK2.out
  by_cases h1 : gnB P Q x = true
  case neg =>
    have h1' : gnB P Q x = false := by simpa using h1
    have hX : X = false := by rw [HB1.out, h1']; rfl
    subst hX
    rw [h1']
    clear h1 h1'
    go_wp2
    go_ret
    exact ⟨rfl, HU2.out⟩
  have HB2 : Hid (X = (gnB P Q y && gnB P Q z)) := hid (by rw [HB1.out, h1]; rfl)
  rw [h1]
  clear h1 HB1
  go_wp2_with fail
  refine (r25Message_any P Q G y _ g1 (by omega) hQ).mono ?_
  rintro e w3 ⟨rfl, hU3⟩
  have HA3 := hid (HA2.out.up hU3)
  have HK3 := hid (HK2.out.up hU3)
  have HU3 := hid (HU2.out.trans hU3)
  clear hU3 c0 c1 c2 c3 c4 c5 e0 e1 e2 HA2 HK2
  obtain ⟨⟨c0, c1, c2⟩, c3, c4, c5⟩ := HA3.out
  obtain ⟨e0, e1, e2⟩ := HK3.out
  by_cases h1 : gnB P Q y = true
  case neg =>
    have h1' : gnB P Q y = false := by simpa using h1
    have hX : X = false := by rw [HB2.out, h1']; rfl
    subst hX
    rw [h1']
    clear h1 h1'
    go_wp2
    go_ret
    exact ⟨rfl, HU3.out⟩
  have HB3 : Hid (X = (gnB P Q z)) := hid (by rw [HB2.out, h1]; rfl)
  rw [h1]
  clear h1 HB2
  go_wp2_with fail
  refine (r25Message_any P Q G z _ g1 (by omega) hQ).mono ?_
  rintro e w4 ⟨rfl, hU4⟩
  rw [← HB3.out]
  go_wp2
  go_ret
  exact ⟨rfl, HU3.out.trans hU4⟩

theorem keepC5Store {w0 w w' : World} {o : Nat} {P Q G A B : Int} {x y z : Value} (hb : w0.heap.size ≤ o) (hw : w' = ((w.setCell ⟨o + 1, 0, none⟩ x).setCell ⟨o + 1, 1, none⟩ y).setCell ⟨o + 1, 2, none⟩ z)
    (h : w.cell? ⟨o + 2, 0, none⟩ = some (.int .i64 P) ∧ w.cell? ⟨o + 2, 1, none⟩ = some (.int .i64 Q) ∧ w.cell? ⟨o + 2, 2, none⟩ = some (.int .i64 G) ∧ w.cell? ⟨o, 3, none⟩ = some (.int .i64 A) ∧ w.cell? ⟨o, 4, none⟩ = some (.int .i64 B) ∧ Hid (Up w0 w)) :
    w'.cell? ⟨o + 2, 0, none⟩ = some (.int .i64 P) ∧ w'.cell? ⟨o + 2, 1, none⟩ = some (.int .i64 Q) ∧ w'.cell? ⟨o + 2, 2, none⟩ = some (.int .i64 G) ∧ w'.cell? ⟨o, 3, none⟩ = some (.int .i64 A) ∧ w'.cell? ⟨o, 4, none⟩ = some (.int .i64 B) ∧ Hid (Up w0 w') := by
  subst hw
  obtain ⟨h0, h1, h2, h3, h4, hU⟩ := h
  have key : ∀ k i, k ≠ o + 1 → (((w.setCell ⟨o + 1, 0, none⟩ x).setCell ⟨o + 1, 1, none⟩ y).setCell ⟨o + 1, 2, none⟩ z).cell? ⟨k, i, none⟩ = w.cell? ⟨k, i, none⟩ := fun k i hk => by
    rw [World.cell?_setCell_other, World.cell?_setCell_other, World.cell?_setCell_other] <;> exact fun h => hk (congrArg Addr.block h).symm
  refine ⟨(key _ _ (by omega)).trans h0, (key _ _ (by omega)).trans h1, (key _ _ (by omega)).trans h2, (key _ _ (by omega)).trans h3, (key _ _ (by omega)).trans h4, hid (((hU.out.setCell ?_ _).setCell ?_ _).setCell ?_ _)⟩ <;> exact Nat.le_succ_of_le hb

end Go.Proofs.YtdbhleinhpiohaaGreatDoor
namespace Go.Proofs.YtdbhleinhpiohaaGreatDoor
open Go.RowKit Go.Sp
set_option maxHeartbeats 2000000
set_option maxRecDepth 20000

theorem nums_three {w : World} {r : Nat} {x y z : Int} {t : TypeId} (hr : w.heap.size = r) : GrpAt (w.alloc (.cells #[.int .i64 x, .int .i64 y, .int .i64 z] t)) r x y z := by
  subst hr
  exact ⟨by go_simp, by go_simp, by go_simp⟩
theorem nums_six {w : World} {r : Nat} {x y z a b c : Int} {t : TypeId} (hr : w.heap.size = r) : BasAt (w.alloc (.cells #[.int .i64 x, .int .i64 y, .int .i64 z, .int .i64 a, .int .i64 b, .int .i64 c] t)) r x y z a b c := by
  subst hr
  exact ⟨⟨by go_simp, by go_simp, by go_simp⟩, by go_simp, by go_simp, by go_simp⟩

/-- Valid blinding factors. -/
def facB (Q s u v : Int) : Bool := nzB Q s && (nzB Q u && exB Q v)

/-- Bases and factors, in two boxes. -/
def TwoAt (w : World) (o : Nat) (P Q G A B C s u v : Int) : Prop := BasAt w o P Q G A B C ∧ GrpAt w (o + 1) s u v
theorem TwoAt.up {w w' : World} {o : Nat} {P Q G A B C s u v : Int} (h : TwoAt w o P Q G A B C s u v) (hU : Up w w') : TwoAt w' o P Q G A B C s u v := ⟨h.1.up hU, h.2.up hU⟩

theorem resElements_any (P Q G A B C : Int) (v : Value) (xs : List Int) (w : World) (g1 : P < 2305843009213693952) (g3 : 0 ≤ Q) (hQ : Q ≤ 9223372036854775807) (hv : IntsAt w v xs) :
    Calls Tryz.prog 39 #[bas P Q G A B C, v] w fun e w' => e = .returned (.bool (xs.all (elB P Q))) ∧ Up w w' := by
  obtain ⟨l1, a1, cp1, rfl, hc1⟩ := hv
  have HC1 := hid hc1
  obtain ⟨X, hX⟩ : ∃ X, xs.all (elB P Q) = X := ⟨_, rfl⟩
  have HX := hid hX
  obtain ⟨n, hn⟩ : ∃ n, xs.length = n := ⟨_, rfl⟩
  have HN := hid hn
  rw [hX]
  rw [hn] at l1
  rw [hn]
  have HBd : Hid (∀ i, i < n → (elB P Q) (xs.getD i 0) = false → X = false) := hid (fun i hi h => by rw [← HX.out]; exact not_all (by rw [HN.out]; exact hi) h)
  clear hc1 hX hn
  go_enter Tryz.func39, Tryz.ntmps39
  go_wp2_with fail
  have HG0 := hid (bas_reads (w := w) (o := .cells #[.int .i64 P, .int .i64 Q, .int .i64 G, .int .i64 A, .int .i64 B, .int .i64 C] 25) rfl (Up.refl _))
  have HU0 := hid ((Up.refl w).alloc (.cells #[.int .i64 P, .int .i64 Q, .int .i64 G, .int .i64 A, .int .i64 B, .int .i64 C] 25))
  obtain ⟨o, ho⟩ : ∃ o, w.heap.size = o := ⟨_, rfl⟩
  rw [ho] at HG0
  rw [ho]
  clear ho
  go_loopw [9] (fun vi wr => ∃ i : Nat, i ≤ n ∧ vi = .int .i64 i ∧ Hid (∀ j, j < i → (elB P Q) (xs.getD j 0) = true) ∧ Hid (Up w wr) ∧ Hid (BasAt wr o P Q G A B C)) (fun vi _ => n - (intOf vi).toNat)
  case atStart => exact ⟨0, by omega, rfl, hid (fun j hj => by omega), HU0, HG0⟩
  case round =>
    obtain ⟨i, hi, rfl, HG, HU, HGr⟩ := hrel
    obtain ⟨⟨c0, c1, c2⟩, c3, c4, c5⟩ := HGr.out
    by_cases hl : i < n
    · have hl1 : i < xs.length := by rw [HN.out]; exact hl
      obtain ⟨b1, o1, rfl, k1⟩ := ints_cell HC1.out HU.out hl1
      have HBi := hid (HBd.out i hl)
      have HS : Hid ((elB P Q) (xs.getD i 0) = true → ∀ j, j < i + 1 → (elB P Q) (xs.getD j 0) = true) := hid (fun h j hj => by
        rcases Nat.lt_or_ge j i with h3 | h3
        · exact HG.out j h3
        · obtain rfl : j = i := by omega
          exact h)
      clear hl1 HG
      generalize xs.getD i 0 = x at *
      go_wp2_with fail
      refine (resElement_any P Q G A B C x _ g1 g3 hQ).mono ?_
      rintro e w3 ⟨rfl, hU3⟩
      have HU3 := hid (HU.out.trans hU3)
      have HG3 := hid (HGr.out.up hU3)
      clear hU3 c0 c1 c2 c3 c4 c5
      by_cases hx : (elB P Q) x = true
      · have Hx := hid hx
        rw [hx]
        clear hx
        go_wp2_with fail
        go_roundw
        case rel => exact ⟨i + 1, by omega, by go_num, hid (HS.out Hx.out), HU3, HG3⟩
        case measure => simp [intOf]; omega
      · have hx' : (elB P Q) x = false := by simpa using hx
        obtain rfl := HBi.out hx'
        rw [hx']
        clear hx hx'
        go_wp2
        go_ret
        exact ⟨rfl, HU3.out⟩
    · obtain rfl : i = n := by omega
      have hX : X = true := by rw [← HX.out]; exact all_of (by rw [HN.out]; exact HG.out)
      subst hX
      go_wp2
      go_ret
      exact ⟨rfl, HU.out⟩

theorem resTimes_ok (P Q G A B C a b : Int) (w : World) (h0 : 0 ≤ a) (h1 : a < P) (h2 : 0 ≤ b) (h3 : b < P) (g1 : P < 2305843009213693952) :
    Calls Tryz.prog 89 #[bas P Q G A B C, .int .i64 a, .int .i64 b] w fun r w' => r = .returned (.int .i64 (a * b % P)) ∧ Up w w' := by
  go_enter Tryz.func89, Tryz.ntmps89
  go_wp2_with fail
  refine (Mul_ok a b P _ h0 h1 h2 h3 g1).mono ?_
  rintro r w3 ⟨rfl, hU3⟩
  go_wp2
  go_ret
  exact ⟨rfl, ((Up.refl w).alloc _).trans hU3⟩

theorem resProduct_ok (P Q G A B C a e b f : Int) (w : World) (h0 : 0 ≤ a) (h1 : a < P) (h2 : 0 ≤ e) (h3 : e ≤ 9223372036854775807) (h4 : 0 ≤ b) (h5 : b < P) (h6 : 0 ≤ f) (h7 : f ≤ 9223372036854775807) (g1 : P < 2305843009213693952) :
    Calls Tryz.prog 73 #[bas P Q G A B C, .int .i64 a, .int .i64 e, .int .i64 b, .int .i64 f] w fun r w' => r = .returned (.int .i64 (pwi P a e * pwi P b f % P)) ∧ Up w w' := by
  have M1 := hid (fun w' => resPower_ok P Q G A B C a e w' h0 h1 h2 h3 g1)
  have M2 := hid (fun w' => resPower_ok P Q G A B C b f w' h4 h5 h6 h7 g1)
  obtain ⟨x0, x1⟩ := pwi_range (P := P) (a := a) (e := e) (by omega)
  obtain ⟨y0, y1⟩ := pwi_range (P := P) (a := b) (e := f) (by omega)
  generalize pwi P a e = x at *
  generalize pwi P b f = y at *
  have M3 := hid (fun w' => resTimes_ok P Q G A B C x y w' x0 x1 y0 y1 g1)
  clear h0 h1 h2 h3 h4 h5 h6 h7 x0 x1 y0 y1
  go_enter Tryz.func73, Tryz.ntmps73
  go_wp2_with fail
  obtain ⟨⟨c0, c1, c2⟩, c3, c4, c5⟩ := bas_reads (w := w) (o := .cells #[.int .i64 P, .int .i64 Q, .int .i64 G, .int .i64 A, .int .i64 B, .int .i64 C] 25) rfl (Up.refl _)
  have f0 := cellF c0
  have f1 := cellF c1
  have f2 := cellF c2
  have f3 := cellF c3
  have f4 := cellF c4
  have f5 := cellF c5
  clear c0 c1 c2 c3 c4 c5
  refine wp_region_up (by kernel_rfl) (by kernel_rfl) ?_
  repeat (go_big_quiet_step ((first
    | (go_at_call 72; first
      | ((with_reducible (show Calls _ _ #[_, .int .i64 a, .int .i64 e] _ _)); exact Calls.up_of (M1.out _))
      | ((with_reducible (show Calls _ _ #[_, .int .i64 b, .int .i64 f] _ _)); exact Calls.up_of (M2.out _)))
    | (go_at_call 89; exact Calls.up_of (M3.out _)))))
  refine wpQuiet_nil ?_
  rintro _ ⟨p, rfl⟩
  go_wp2
  go_ret
  exact ⟨rfl, ((Up.refl w).alloc _).trans p.up⟩

theorem pwi_one {P b : Int} (h0 : 0 ≤ b) (h1 : b < P) : pwi P b 1 = b := by
  show pw b 1 P = b
  exact pw_one_exp h0 h1

/-- The other factor as it is. -/
theorem resProduct_one (P Q G A B C a e b : Int) (w : World) (h0 : 0 ≤ a) (h1 : a < P) (h2 : 0 ≤ e) (h3 : e ≤ 9223372036854775807) (h4 : 0 ≤ b) (h5 : b < P) (g1 : P < 2305843009213693952) :
    Calls Tryz.prog 73 #[bas P Q G A B C, .int .i64 a, .int .i64 e, .int .i64 b, .int .i64 1] w fun r w' => r = .returned (.int .i64 (pwi P a e * b % P)) ∧ Up w w' := by
  have h := resProduct_ok P Q G A B C a e b 1 w h0 h1 h2 h3 h4 h5 (by omega) (by omega) g1
  rwa [pwi_one h4 h5] at h

/-- A view as a value. -/
abbrev vw (m z x y c r : Int) : Value := .agg #[.int .i64 m, .int .i64 z, .int .i64 x, .int .i64 y, .int .i64 c, .int .i64 r]
/-- What holds of a right view, beyond the ranges. -/
def cvE (P G k1 m z x y c r : Int) : Bool := pwi P G r == pwi P k1 c * x % P && pwi P m r == pwi P z c * y % P
/-- A right view. -/
def cvB (P Q G A B C k1 k2 k3 m z x y c r : Int) : Bool :=
  kvB P Q G A B C k1 k2 k3 && (gnB P Q m && (elB P Q z && (elB P Q x && (elB P Q y && (nzB Q c && (exB Q r && cvE P G k1 m z x y c r))))))

/-- Bases, a key and a view, in three boxes. -/
def ViewsAt (w : World) (o : Nat) (P Q G A B C k1 k2 k3 m z x y c r : Int) : Prop := BasAt w o P Q G A B C ∧ GrpAt w (o + 1) k1 k2 k3 ∧ BasAt w (o + 2) m z x y c r
theorem ViewsAt.up {w w' : World} {o : Nat} {P Q G A B C k1 k2 k3 m z x y c r : Int} (h : ViewsAt w o P Q G A B C k1 k2 k3 m z x y c r) (hU : Up w w') : ViewsAt w' o P Q G A B C k1 k2 k3 m z x y c r := ⟨h.1.up hU, h.2.1.up hU, h.2.2.up hU⟩
theorem views_new {w : World} {o : Nat} {t t1 t2 : TypeId} {P Q G A B C k1 k2 k3 m z x y c r : Int} (ho : w.heap.size = o) :
    ViewsAt (((w.alloc (.cells #[.int .i64 P, .int .i64 Q, .int .i64 G, .int .i64 A, .int .i64 B, .int .i64 C] t)).alloc (.cells #[.int .i64 k1, .int .i64 k2, .int .i64 k3] t1)).alloc (.cells #[.int .i64 m, .int .i64 z, .int .i64 x, .int .i64 y, .int .i64 c, .int .i64 r] t2)) o P Q G A B C k1 k2 k3 m z x y c r :=
  ⟨(nums_six ho).up (((Up.refl _).alloc _).alloc _), (nums_three (by simp [ho])).up ((Up.refl _).alloc _), nums_six (by simp [ho])⟩

theorem resCheckView_any (P Q G A B C k1 k2 k3 m z x y c r : Int) (w : World) (hP : -9223372036854775808 ≤ P) (hQ : Q ≤ 9223372036854775807) (hT : Tab w) :
    Calls Tryz.prog 36 #[bas P Q G A B C, bkey k1 k2 k3, vw m z x y c r] w fun e w' => e = .returned (.bool (cvB P Q G A B C k1 k2 k3 m z x y c r)) ∧ Up w w' := by
  have HT := hid hT
  have HB : Hid (cvB P Q G A B C k1 k2 k3 m z x y c r = (kvB P Q G A B C k1 k2 k3 && (gnB P Q m && ([z, x, y].all (elB P Q) && (nzB Q c && (exB Q r && cvE P G k1 m z x y c r)))))) := hid (by simp [cvB, Bool.and_assoc])
  generalize cvB P Q G A B C k1 k2 k3 m z x y c r = T at *
  clear hT
  go_enter Tryz.func36, Tryz.ntmps36
  go_wp2_with fail
  obtain ⟨o, ho⟩ : ∃ o, w.heap.size = o := ⟨_, rfl⟩
  have HV0 := hid (views_new (w := w) (t := 25) (t1 := 27) (t2 := 29) (P := P) (Q := Q) (G := G) (A := A) (B := B) (C := C) (k1 := k1) (k2 := k2) (k3 := k3) (m := m) (z := z) (x := x) (y := y) (c := c) (r := r) ho)
  have HU0 := hid ((((Up.refl w).alloc (.cells #[.int .i64 P, .int .i64 Q, .int .i64 G, .int .i64 A, .int .i64 B, .int .i64 C] 25)).alloc (.cells #[.int .i64 k1, .int .i64 k2, .int .i64 k3] 27)).alloc (.cells #[.int .i64 m, .int .i64 z, .int .i64 x, .int .i64 y, .int .i64 c, .int .i64 r] 29))
  refine (resValid_any P Q G A B C k1 k2 k3 _ hP hQ (HT.out.up HU0.out)).mono ?_
  rintro e w1 ⟨rfl, hU1⟩
  rw [ho]
  clear ho
  have HV1 := hid (HV0.out.up hU1)
  have HU1 := hid (HU0.out.trans hU1)
  clear hU1 HV0 HU0
  obtain ⟨⟨⟨c0, c1, c2⟩, c3, c4, c5⟩, ⟨e0, e1, e2⟩, ⟨b0, b1, b2⟩, b3, b4, b5⟩ := HV1.out
  by_cases h : kvB P Q G A B C k1 k2 k3 = true
  case neg =>
    have h' : kvB P Q G A B C k1 k2 k3 = false := by simpa using h
    have hX : T = false := by rw [HB.out, h']; rfl
    subst hX
    rw [h']
    clear h h'
    go_wp2
    go_ret
    exact ⟨rfl, HU1.out⟩
  have HB1 : Hid (T = (gnB P Q m && ([z, x, y].all (elB P Q) && (nzB Q c && (exB Q r && cvE P G k1 m z x y c r))))) := hid (by rw [HB.out, h]; rfl)
  have C1 := hid h
  rw [h]
  clear h HB
  obtain ⟨hbv, hk1, hk2, hk3⟩ : bvB P Q G A B C = true ∧ gnB P Q k1 = true ∧ gnB P Q k2 = true ∧ gnB P Q k3 = true := by
    have := C1.out
    simp only [kvB, Bool.and_eq_true] at this
    exact this
  have g := gv_iff.1 (bv_iff.1 hbv).1
  have g1 := g.P61
  have g2 := g.P4
  have g3 := g.Q3
  have g5 := g.G2
  have g6 := g.GP
  have HK1 := hid (gn_el hk1)
  clear hbv hk1 hk2 hk3 g
  go_wp2_with fail
  refine (resMessage_any P Q G A B C m _ g1 (by omega) hQ).mono ?_
  rintro e w2 ⟨rfl, hU2⟩
  have HV2 := hid (HV1.out.up hU2)
  have HU2 := hid (HU1.out.trans hU2)
  clear hU2 c0 c1 c2 c3 c4 c5 e0 e1 e2 b0 b1 b2 b3 b4 b5 HV1
  obtain ⟨⟨⟨c0, c1, c2⟩, c3, c4, c5⟩, ⟨e0, e1, e2⟩, ⟨b0, b1, b2⟩, b3, b4, b5⟩ := HV2.out
  by_cases h : gnB P Q m = true
  case neg =>
    have h' : gnB P Q m = false := by simpa using h
    have hX : T = false := by rw [HB1.out, h']; rfl
    subst hX
    rw [h']
    clear h h'
    go_wp2
    go_ret
    exact ⟨rfl, HU2.out⟩
  have HB2 : Hid (T = ([z, x, y].all (elB P Q) && (nzB Q c && (exB Q r && cvE P G k1 m z x y c r)))) := hid (by rw [HB1.out, h]; rfl)
  have C2 := hid h
  rw [h]
  clear h HB1
  go_wp2_with fail
  refine (resElements_any P Q G A B C _ [z, x, y] _ g1 (by omega) hQ (ints_three (w := w2.alloc (.cells #[.int .i64 z, .int .i64 x, .int .i64 y] 3)) (b := w2.heap.size) (cap := 3) (x := z) (y := x) (z := y) (by go_simp) (by go_simp) (by go_simp))).mono ?_
  rintro e w3 ⟨rfl, hU3⟩
  have HV3 := hid ((HV2.out.up ((Up.refl w2).alloc _)).up hU3)
  have HU3 := hid ((HU2.out.alloc _).trans hU3)
  clear hU3 c0 c1 c2 c3 c4 c5 e0 e1 e2 b0 b1 b2 b3 b4 b5 HV2
  obtain ⟨⟨⟨c0, c1, c2⟩, c3, c4, c5⟩, ⟨e0, e1, e2⟩, ⟨b0, b1, b2⟩, b3, b4, b5⟩ := HV3.out
  by_cases h : [z, x, y].all (elB P Q) = true
  case neg =>
    have h' : [z, x, y].all (elB P Q) = false := by simpa using h
    have hX : T = false := by rw [HB2.out, h']; rfl
    subst hX
    rw [h']
    clear h h'
    go_wp2
    go_ret
    exact ⟨rfl, HU3.out⟩
  have HB3 : Hid (T = (nzB Q c && (exB Q r && cvE P G k1 m z x y c r))) := hid (by rw [HB2.out, h]; rfl)
  have C3 := hid h
  rw [h]
  clear h HB2
  go_wp2_with fail
  refine (resNonzero_any P Q G A B C c _).mono ?_
  rintro e w4 ⟨rfl, hU4⟩
  have HV4 := hid (HV3.out.up hU4)
  have HU4 := hid (HU3.out.trans hU4)
  clear hU4 c0 c1 c2 c3 c4 c5 e0 e1 e2 b0 b1 b2 b3 b4 b5 HV3
  obtain ⟨⟨⟨c0, c1, c2⟩, c3, c4, c5⟩, ⟨e0, e1, e2⟩, ⟨b0, b1, b2⟩, b3, b4, b5⟩ := HV4.out
  by_cases h : nzB Q c = true
  case neg =>
    have h' : nzB Q c = false := by simpa using h
    have hX : T = false := by rw [HB3.out, h']; rfl
    subst hX
    rw [h']
    clear h h'
    go_wp2
    go_ret
    exact ⟨rfl, HU4.out⟩
  have HB4 : Hid (T = (exB Q r && cvE P G k1 m z x y c r)) := hid (by rw [HB3.out, h]; rfl)
  have C4 := hid h
  rw [h]
  clear h HB3
  go_wp2_with fail
  refine (resScalar_any P Q G A B C r _).mono ?_
  rintro e w5 ⟨rfl, hU5⟩
  have HV5 := hid (HV4.out.up hU5)
  have HU5 := hid (HU4.out.trans hU5)
  clear hU5 c0 c1 c2 c3 c4 c5 e0 e1 e2 b0 b1 b2 b3 b4 b5 HV4
  obtain ⟨⟨⟨c0, c1, c2⟩, c3, c4, c5⟩, ⟨e0, e1, e2⟩, ⟨b0, b1, b2⟩, b3, b4, b5⟩ := HV5.out
  by_cases h : exB Q r = true
  case neg =>
    have h' : exB Q r = false := by simpa using h
    have hX : T = false := by rw [HB4.out, h']; rfl
    subst hX
    rw [h']
    clear h h'
    go_wp2
    go_ret
    exact ⟨rfl, HU5.out⟩
  have HB5 : Hid (T = (cvE P G k1 m z x y c r)) := hid (by rw [HB4.out, h]; rfl)
  have C5 := hid h
  rw [h]
  clear h HB4
  obtain ⟨hz, hx, hy⟩ : elB P Q z = true ∧ elB P Q x = true ∧ elB P Q y = true := by
    have := C3.out
    simpa using this
  obtain ⟨z0, z1, _⟩ := el_iff.1 hz
  obtain ⟨x0, x1, _⟩ := el_iff.1 hx
  obtain ⟨y0, y1, _⟩ := el_iff.1 hy
  obtain ⟨k0, k9, _⟩ := el_iff.1 HK1.out
  obtain ⟨m0, m1, _⟩ := el_iff.1 (gn_el C2.out)
  obtain ⟨q0, q1⟩ := nzB_iff.1 C4.out
  obtain ⟨r0, r1⟩ := exB_iff.1 C5.out
  have M1 := hid (fun w' => resPower_ok P Q G A B C G r w' (by omega) g6 (by omega) (by omega) g1)
  have M2 := hid (fun w' => resProduct_one P Q G A B C k1 c x w' (by omega) k9 (by omega) (by omega) (by omega) x1 g1)
  have M3 := hid (fun w' => resPower_ok P Q G A B C m r w' (by omega) m1 (by omega) (by omega) g1)
  have M4 := hid (fun w' => resProduct_one P Q G A B C z c y w' (by omega) z1 (by omega) (by omega) (by omega) y1 g1)
  have HE : Hid (T = (pwi P G r == pwi P k1 c * x % P && pwi P m r == pwi P z c * y % P)) := HB5
  generalize pwi P G r = l1 at *
  generalize pwi P k1 c * x % P = r1' at *
  generalize pwi P m r = l2 at *
  generalize pwi P z c * y % P = r2' at *
  have fc0 := cellF c0
  have fc1 := cellF c1
  have fc2 := cellF c2
  have fc3 := cellF c3
  have fc4 := cellF c4
  have fc5 := cellF c5
  have fe0 := cellF e0
  have fe1 := cellF e1
  have fe2 := cellF e2
  have fb0 := cellF b0
  have fb1 := cellF b1
  have fb2 := cellF b2
  have fb3 := cellF b3
  have fb4 := cellF b4
  have fb5 := cellF b5
  clear c0 c1 c2 c3 c4 c5 e0 e1 e2 b0 b1 b2 b3 b4 b5 hz hx hy z0 z1 x0 x1 y0 y1 k0 k9 m0 m1 q0 q1 r0 r1 HB5 g1 g2 g3 g5 g6
  by_cases hq : l1 = r1'
  · have d : (l1 == r1') = true := by simpa using hq
    have HX : Hid (T = (l2 == r2')) := hid (by rw [HE.out, d]; rfl)
    clear hq HE
    go_wp2_with fail
    refine wp_region_up (by kernel_rfl) (by kernel_rfl) ?_
    repeat (go_big_quiet_step ((first
      | (go_at_call 72; first
        | ((with_reducible (show Calls _ _ #[_, .int .i64 G, _] _ _)); exact Calls.up_of (M1.out _))
        | ((with_reducible (show Calls _ _ #[_, .int .i64 m, _] _ _)); exact Calls.up_of (M3.out _)))
      | (go_at_call 73; first
        | ((with_reducible (show Calls _ _ #[_, .int .i64 k1, _, _, _] _ _)); exact Calls.up_of (M2.out _))
        | ((with_reducible (show Calls _ _ #[_, .int .i64 z, _, _, _] _ _)); exact Calls.up_of (M4.out _))))))
    refine wpQuiet_nil ?_
    rintro _ ⟨p, rfl⟩
    go_wp2
    go_ret
    exact ⟨by rw [HX.out]; rfl, HU5.out.trans p.up⟩
  · have d : (l1 == r1') = false := by simpa using hq
    have hX : T = false := by rw [HE.out, d]; rfl
    subst hX
    clear hq HE
    go_wp2_with fail
    refine wp_region_up (by kernel_rfl) (by kernel_rfl) ?_
    repeat (go_big_quiet_step ((first
      | (go_at_call 72; first
        | ((with_reducible (show Calls _ _ #[_, .int .i64 G, _] _ _)); exact Calls.up_of (M1.out _))
        | ((with_reducible (show Calls _ _ #[_, .int .i64 m, _] _ _)); exact Calls.up_of (M3.out _)))
      | (go_at_call 73; first
        | ((with_reducible (show Calls _ _ #[_, .int .i64 k1, _, _, _] _ _)); exact Calls.up_of (M2.out _))
        | ((with_reducible (show Calls _ _ #[_, .int .i64 z, _, _, _] _ _)); exact Calls.up_of (M4.out _))))))
    refine wpQuiet_nil ?_
    rintro _ ⟨p, rfl⟩
    go_wp2
    go_ret
    exact ⟨rfl, HU5.out.trans p.up⟩
end Go.Proofs.YtdbhleinhpiohaaGreatDoor
namespace Go.Proofs.YtdbhleinhpiohaaGreatDoor
open Go.RowKit Go.Sp
set_option maxHeartbeats 2000000
set_option maxRecDepth 20000

theorem r25times_ok (P Q G a b : Int) (w : World) (h0 : 0 ≤ a) (h1 : a < P) (h2 : 0 ≤ b) (h3 : b < P) (g1 : P < 2305843009213693952) :
    Calls Tryz.prog 58 #[grp P Q G, .int .i64 a, .int .i64 b] w fun r w' => r = .returned (.int .i64 (a * b % P)) ∧ Up w w' := by
  go_enter Tryz.func58, Tryz.ntmps58
  go_wp2_with fail
  refine (rMul_ok a b P _ h0 h1 h2 h3 g1).mono ?_
  rintro r w3 ⟨rfl, rfl⟩
  go_wp2
  go_ret
  exact ⟨rfl, (Up.refl w).alloc _⟩

theorem r25Factors_any (P Q G s u v : Int) (w : World) :
    Calls Tryz.prog 27 #[grp P Q G, .agg #[.int .i64 s, .int .i64 u, .int .i64 v]] w fun e w' => e = .returned (.bool (facB Q s u v)) ∧ Up w w' := by
  have HB : Hid (facB Q s u v = (decide (1 ≤ s) && (decide (s < Q) && (decide (1 ≤ u) && (decide (u < Q) && exB Q v))))) := hid (by simp [facB, nzB, Bool.and_assoc])
  generalize facB Q s u v = T at *
  by_cases q0 : s ≥ 1
  case neg =>
    have d0 : decide (s ≥ 1) = false := by simpa using q0
    have hX : T = false := by rw [HB.out, show decide (1 ≤ s) = false from d0]; rfl
    subst hX
    clear q0 HB
    go_enter Tryz.func27, Tryz.ntmps27
    go_wp2
    go_ret
    exact ⟨rfl, ((Up.refl w).alloc _).alloc _⟩
  have d0 : decide (s ≥ 1) = true := by simpa using q0
  have HB0 : Hid (T = (decide (s < Q) && (decide (1 ≤ u) && (decide (u < Q) && (exB Q v))))) := hid (by rw [HB.out, show decide (1 ≤ s) = true from d0]; rfl)
  clear HB
  by_cases q1 : s < Q
  case neg =>
    have d1 : decide (s < Q) = false := by simpa using q1
    have hX : T = false := by rw [HB0.out, show decide (s < Q) = false from d1]; rfl
    subst hX
    clear q0 q1 HB0
    go_enter Tryz.func27, Tryz.ntmps27
    go_wp2
    go_ret
    exact ⟨rfl, ((Up.refl w).alloc _).alloc _⟩
  have d1 : decide (s < Q) = true := by simpa using q1
  have HB1 : Hid (T = (decide (1 ≤ u) && (decide (u < Q) && (exB Q v)))) := hid (by rw [HB0.out, show decide (s < Q) = true from d1]; rfl)
  clear HB0
  by_cases q2 : u ≥ 1
  case neg =>
    have d2 : decide (u ≥ 1) = false := by simpa using q2
    have hX : T = false := by rw [HB1.out, show decide (1 ≤ u) = false from d2]; rfl
    subst hX
    clear q0 q1 q2 HB1
    go_enter Tryz.func27, Tryz.ntmps27
    go_wp2
    go_ret
    exact ⟨rfl, ((Up.refl w).alloc _).alloc _⟩
  have d2 : decide (u ≥ 1) = true := by simpa using q2
  have HB2 : Hid (T = (decide (u < Q) && (exB Q v))) := hid (by rw [HB1.out, show decide (1 ≤ u) = true from d2]; rfl)
  clear HB1
  by_cases q3 : u < Q
  case neg =>
    have d3 : decide (u < Q) = false := by simpa using q3
    have hX : T = false := by rw [HB2.out, show decide (u < Q) = false from d3]; rfl
    subst hX
    clear q0 q1 q2 q3 HB2
    go_enter Tryz.func27, Tryz.ntmps27
    go_wp2
    go_ret
    exact ⟨rfl, ((Up.refl w).alloc _).alloc _⟩
  have d3 : decide (u < Q) = true := by simpa using q3
  have HB3 : Hid (T = (exB Q v)) := hid (by rw [HB2.out, show decide (u < Q) = true from d3]; rfl)
  clear HB2
  clear q0 q1 q2 q3
  go_enter Tryz.func27, Tryz.ntmps27
  go_wp2_with fail
  refine (r25Scalar_any P Q G v _).mono ?_
  rintro e w1 ⟨rfl, hU1⟩
  rw [← HB3.out]
  go_wp2
  go_ret
  exact ⟨rfl, (((Up.refl w).alloc _).alloc _).trans hU1⟩

/-- Bases, a key, a view and a group, in four boxes. -/
def FourAt (w : World) (o : Nat) (P Q G A B C k1 k2 k3 m z x y c r : Int) : Prop := ViewsAt w o P Q G A B C k1 k2 k3 m z x y c r ∧ GrpAt w (o + 3) P Q G
theorem FourAt.up {w w' : World} {o : Nat} {P Q G A B C k1 k2 k3 m z x y c r : Int} (h : FourAt w o P Q G A B C k1 k2 k3 m z x y c r) (hU : Up w w') : FourAt w' o P Q G A B C k1 k2 k3 m z x y c r := ⟨h.1.up hU, h.2.up hU⟩

theorem r25CheckView_any (P Q G A B C k1 k2 k3 m z x y c r : Int) (w : World) (hP : -9223372036854775808 ≤ P) (hQ : Q ≤ 9223372036854775807) :
    Calls Tryz.prog 22 #[bas P Q G A B C, bkey k1 k2 k3, vw m z x y c r] w fun e w' => e = .returned (.bool (cvB P Q G A B C k1 k2 k3 m z x y c r)) ∧ Up w w' := by
  have HB : Hid (cvB P Q G A B C k1 k2 k3 m z x y c r = (kvB P Q G A B C k1 k2 k3 && (gnB P Q m && (elB P Q z && (elB P Q x && (elB P Q y && (decide (1 ≤ c) && (decide (c < Q) && (exB Q r && cvE P G k1 m z x y c r))))))))) := hid (by simp [cvB, nzB, Bool.and_assoc])
  generalize cvB P Q G A B C k1 k2 k3 m z x y c r = T at *
  obtain ⟨o, ho⟩ : ∃ o, w.heap.size = o := ⟨_, rfl⟩
  have HO := hid ho
  clear ho
  go_enter Tryz.func22, Tryz.ntmps22
  go_wp2_with fail
  have HV0 := hid (views_new (w := w) (t := 25) (t1 := 27) (t2 := 29) (P := P) (Q := Q) (G := G) (A := A) (B := B) (C := C) (k1 := k1) (k2 := k2) (k3 := k3) (m := m) (z := z) (x := x) (y := y) (c := c) (r := r) HO.out)
  have HU0 := hid ((((Up.refl w).alloc (.cells #[.int .i64 P, .int .i64 Q, .int .i64 G, .int .i64 A, .int .i64 B, .int .i64 C] 25)).alloc (.cells #[.int .i64 k1, .int .i64 k2, .int .i64 k3] 27)).alloc (.cells #[.int .i64 m, .int .i64 z, .int .i64 x, .int .i64 y, .int .i64 c, .int .i64 r] 29))
  have HV00 : Hid (FourAt ((((w.alloc (.cells #[.int .i64 P, .int .i64 Q, .int .i64 G, .int .i64 A, .int .i64 B, .int .i64 C] 25)).alloc (.cells #[.int .i64 k1, .int .i64 k2, .int .i64 k3] 27)).alloc (.cells #[.int .i64 m, .int .i64 z, .int .i64 x, .int .i64 y, .int .i64 c, .int .i64 r] 29)).alloc (.cells #[.int .i64 P, .int .i64 Q, .int .i64 G] 23)) o P Q G A B C k1 k2 k3 m z x y c r) := hid ⟨HV0.out.up ((Up.refl _).alloc _), nums_three (by simp [HO.out])⟩
  have HU00 := hid (HU0.out.alloc (.cells #[.int .i64 P, .int .i64 Q, .int .i64 G] 23))
  clear HV0 HU0
  refine (r25Valid_any P Q G A B C k1 k2 k3 _ hP hQ).mono ?_
  rintro e w1 ⟨rfl, hU1⟩
  have HV1 := hid (HV00.out.up hU1)
  have HU1 := hid (HU00.out.trans hU1)
  rw [HO.out]
  clear hU1 HV00 HU00
  obtain ⟨⟨⟨⟨c0, c1, c2⟩, c3, c4, c5⟩, ⟨e0, e1, e2⟩, ⟨b0, b1, b2⟩, b3, b4, b5⟩, a0, a1, a2⟩ := HV1.out
  by_cases h : kvB P Q G A B C k1 k2 k3 = true
  case neg =>
    have h' : kvB P Q G A B C k1 k2 k3 = false := by simpa using h
    have hX : T = false := by rw [HB.out, h']; rfl
    subst hX
    rw [h']
    clear h h'
    go_wp2
    go_ret
    exact ⟨rfl, HU1.out⟩
  have HB1 : Hid (T = (gnB P Q m && (elB P Q z && (elB P Q x && (elB P Q y && (decide (1 ≤ c) && (decide (c < Q) && (exB Q r && (cvE P G k1 m z x y c r))))))))) := hid (by rw [HB.out, h]; rfl)
  have C1 := hid h
  rw [h]
  clear h HB
  obtain ⟨hbv, hk1, hk2, hk3⟩ : bvB P Q G A B C = true ∧ gnB P Q k1 = true ∧ gnB P Q k2 = true ∧ gnB P Q k3 = true := by
    have := C1.out
    simp only [kvB, Bool.and_eq_true] at this
    exact this
  have g := gv_iff.1 (bv_iff.1 hbv).1
  have g1 := g.P61
  have g2 := g.P4
  have g3 := g.Q3
  have g5 := g.G2
  have g6 := g.GP
  have HK1 := hid (gn_el hk1)
  clear hbv hk1 hk2 hk3 g
  go_wp2_with fail
  refine (r25Message_any P Q G m _ g1 (by omega) hQ).mono ?_
  rintro e w2 ⟨rfl, hU2⟩
  have HV2 := hid (HV1.out.up hU2)
  have HU2 := hid (HU1.out.trans hU2)
  clear hU2 c0 c1 c2 c3 c4 c5 e0 e1 e2 b0 b1 b2 b3 b4 b5 a0 a1 a2 HV1
  obtain ⟨⟨⟨⟨c0, c1, c2⟩, c3, c4, c5⟩, ⟨e0, e1, e2⟩, ⟨b0, b1, b2⟩, b3, b4, b5⟩, a0, a1, a2⟩ := HV2.out
  by_cases h : gnB P Q m = true
  case neg =>
    have h' : gnB P Q m = false := by simpa using h
    have hX : T = false := by rw [HB1.out, h']; rfl
    subst hX
    rw [h']
    clear h h'
    go_wp2
    go_ret
    exact ⟨rfl, HU2.out⟩
  have HB2 : Hid (T = (elB P Q z && (elB P Q x && (elB P Q y && (decide (1 ≤ c) && (decide (c < Q) && (exB Q r && (cvE P G k1 m z x y c r)))))))) := hid (by rw [HB1.out, h]; rfl)
  have C2 := hid h
  rw [h]
  clear h HB1
  go_wp2_with fail
  refine (rMember_any P Q G z _ g1 (by omega) hQ).mono ?_
  rintro e w3 ⟨rfl, hU3⟩
  have HV3 := hid (HV2.out.up hU3)
  have HU3 := hid (HU2.out.trans hU3)
  clear hU3 c0 c1 c2 c3 c4 c5 e0 e1 e2 b0 b1 b2 b3 b4 b5 a0 a1 a2 HV2
  obtain ⟨⟨⟨⟨c0, c1, c2⟩, c3, c4, c5⟩, ⟨e0, e1, e2⟩, ⟨b0, b1, b2⟩, b3, b4, b5⟩, a0, a1, a2⟩ := HV3.out
  by_cases h : elB P Q z = true
  case neg =>
    have h' : elB P Q z = false := by simpa using h
    have hX : T = false := by rw [HB2.out, h']; rfl
    subst hX
    rw [h']
    clear h h'
    go_wp2
    go_ret
    exact ⟨rfl, HU3.out⟩
  have HB3 : Hid (T = (elB P Q x && (elB P Q y && (decide (1 ≤ c) && (decide (c < Q) && (exB Q r && (cvE P G k1 m z x y c r))))))) := hid (by rw [HB2.out, h]; rfl)
  have C3 := hid h
  rw [h]
  clear h HB2
  go_wp2_with fail
  refine (rMember_any P Q G x _ g1 (by omega) hQ).mono ?_
  rintro e w4 ⟨rfl, hU4⟩
  have HV4 := hid (HV3.out.up hU4)
  have HU4 := hid (HU3.out.trans hU4)
  clear hU4 c0 c1 c2 c3 c4 c5 e0 e1 e2 b0 b1 b2 b3 b4 b5 a0 a1 a2 HV3
  obtain ⟨⟨⟨⟨c0, c1, c2⟩, c3, c4, c5⟩, ⟨e0, e1, e2⟩, ⟨b0, b1, b2⟩, b3, b4, b5⟩, a0, a1, a2⟩ := HV4.out
  by_cases h : elB P Q x = true
  case neg =>
    have h' : elB P Q x = false := by simpa using h
    have hX : T = false := by rw [HB3.out, h']; rfl
    subst hX
    rw [h']
    clear h h'
    go_wp2
    go_ret
    exact ⟨rfl, HU4.out⟩
  have HB4 : Hid (T = (elB P Q y && (decide (1 ≤ c) && (decide (c < Q) && (exB Q r && (cvE P G k1 m z x y c r)))))) := hid (by rw [HB3.out, h]; rfl)
  have C4 := hid h
  rw [h]
  clear h HB3
  go_wp2_with fail
  refine (rMember_any P Q G y _ g1 (by omega) hQ).mono ?_
  rintro e w5 ⟨rfl, hU5⟩
  have HV5 := hid (HV4.out.up hU5)
  have HU5 := hid (HU4.out.trans hU5)
  clear hU5 c0 c1 c2 c3 c4 c5 e0 e1 e2 b0 b1 b2 b3 b4 b5 a0 a1 a2 HV4
  obtain ⟨⟨⟨⟨c0, c1, c2⟩, c3, c4, c5⟩, ⟨e0, e1, e2⟩, ⟨b0, b1, b2⟩, b3, b4, b5⟩, a0, a1, a2⟩ := HV5.out
  by_cases h : elB P Q y = true
  case neg =>
    have h' : elB P Q y = false := by simpa using h
    have hX : T = false := by rw [HB4.out, h']; rfl
    subst hX
    rw [h']
    clear h h'
    go_wp2
    go_ret
    exact ⟨rfl, HU5.out⟩
  have HB5 : Hid (T = (decide (1 ≤ c) && (decide (c < Q) && (exB Q r && (cvE P G k1 m z x y c r))))) := hid (by rw [HB4.out, h]; rfl)
  have C5 := hid h
  rw [h]
  clear h HB4
  by_cases q0 : c < 1
  case pos =>
    have d0 : decide (c < 1) = true := by simpa using q0
    have hX : T = false := by rw [HB5.out, show decide (1 ≤ c) = false by simp; omega]; rfl
    subst hX
    clear q0
    go_wp2
    go_ret
    exact ⟨rfl, HU5.out⟩
  have d0 : decide (c < 1) = false := by simpa using q0
  have HB6 : Hid (T = (decide (c < Q) && (exB Q r && (cvE P G k1 m z x y c r)))) := hid (by rw [HB5.out, show decide (1 ≤ c) = true by simp; omega]; rfl)
  clear HB5
  by_cases q1 : c ≥ Q
  case pos =>
    have d1 : decide (c ≥ Q) = true := by simpa using q1
    have hX : T = false := by rw [HB6.out, show decide (c < Q) = false by simp; omega]; rfl
    subst hX
    clear q0 q1
    go_wp2
    go_ret
    exact ⟨rfl, HU5.out⟩
  have d1 : decide (c ≥ Q) = false := by simpa using q1
  have HB7 : Hid (T = (exB Q r && (cvE P G k1 m z x y c r))) := hid (by rw [HB6.out, show decide (c < Q) = true by simp; omega]; rfl)
  clear HB6
  go_wp2_with fail
  refine (r25Scalar_any P Q G r _).mono ?_
  rintro e w6 ⟨rfl, hU6⟩
  have HV6 := hid (HV5.out.up hU6)
  have HU6 := hid (HU5.out.trans hU6)
  clear hU6 c0 c1 c2 c3 c4 c5 e0 e1 e2 b0 b1 b2 b3 b4 b5 a0 a1 a2 HV5
  obtain ⟨⟨⟨⟨c0, c1, c2⟩, c3, c4, c5⟩, ⟨e0, e1, e2⟩, ⟨b0, b1, b2⟩, b3, b4, b5⟩, a0, a1, a2⟩ := HV6.out
  by_cases h : exB Q r = true
  case neg =>
    have h' : exB Q r = false := by simpa using h
    have hX : T = false := by rw [HB7.out, h']; rfl
    subst hX
    rw [h']
    clear h h'
    go_wp2
    go_ret
    exact ⟨rfl, HU6.out⟩
  have HB6 : Hid (T = (cvE P G k1 m z x y c r)) := hid (by rw [HB7.out, h]; rfl)
  have C6 := hid h
  rw [h]
  clear h HB7
  obtain ⟨z0, z1, _⟩ := el_iff.1 C3.out
  obtain ⟨x0, x1, _⟩ := el_iff.1 C4.out
  obtain ⟨y0, y1, _⟩ := el_iff.1 C5.out
  obtain ⟨k0, k9, _⟩ := el_iff.1 HK1.out
  obtain ⟨m0, m1, _⟩ := el_iff.1 (gn_el C2.out)
  obtain ⟨r0, r1⟩ := exB_iff.1 C6.out
  have M1 := hid (fun w' => r25power_ok P Q G G r w' (by omega) g6 (by omega) (by omega) g1)
  have M2 := hid (fun w' => r25power_ok P Q G k1 c w' (by omega) k9 (by omega) (by omega) g1)
  have M3 := hid (fun w' => r25power_ok P Q G m r w' (by omega) m1 (by omega) (by omega) g1)
  have M4 := hid (fun w' => r25power_ok P Q G z c w' (by omega) z1 (by omega) (by omega) g1)
  obtain ⟨u0, u1⟩ := pwi_range (P := P) (a := k1) (e := c) (by omega)
  obtain ⟨v0, v1⟩ := pwi_range (P := P) (a := z) (e := c) (by omega)
  have HE : Hid (T = (pwi P G r == pwi P k1 c * x % P && pwi P m r == pwi P z c * y % P)) := HB6
  generalize pwi P G r = l1 at *
  generalize pwi P k1 c = u at *
  generalize pwi P m r = l2 at *
  generalize pwi P z c = v at *
  have M5 := hid (fun w' => r25times_ok P Q G u x w' u0 u1 (by omega) x1 g1)
  have M6 := hid (fun w' => r25times_ok P Q G v y w' v0 v1 (by omega) y1 g1)
  generalize u * x % P = r1' at *
  generalize v * y % P = r2' at *
  have fc0 := cellF c0
  have fc1 := cellF c1
  have fc2 := cellF c2
  have fc3 := cellF c3
  have fc4 := cellF c4
  have fc5 := cellF c5
  have fe0 := cellF e0
  have fe1 := cellF e1
  have fe2 := cellF e2
  have fb0 := cellF b0
  have fb1 := cellF b1
  have fb2 := cellF b2
  have fb3 := cellF b3
  have fb4 := cellF b4
  have fb5 := cellF b5
  have fa0 := cellF a0
  have fa1 := cellF a1
  have fa2 := cellF a2
  clear c0 c1 c2 c3 c4 c5 e0 e1 e2 b0 b1 b2 b3 b4 b5 a0 a1 a2 z0 z1 x0 x1 y0 y1 k0 k9 m0 m1 r0 r1 HB6 g1 g2 g3 g5 g6 u0 u1 v0 v1 d0 d1 q0 q1
  by_cases hq : l1 = r1'
  · have d : (l1 == r1') = true := by simpa using hq
    have HX : Hid (T = (l2 == r2')) := hid (by rw [HE.out, d]; rfl)
    clear hq HE
    go_wp2_with fail
    refine wp_region_up (by kernel_rfl) (by kernel_rfl) ?_
    repeat (go_big_quiet_step ((first
      | (go_at_call 57; first
        | ((with_reducible (show Calls _ _ #[_, .int .i64 G, _] _ _)); exact Calls.up_of (M1.out _))
        | ((with_reducible (show Calls _ _ #[_, .int .i64 k1, _] _ _)); exact Calls.up_of (M2.out _))
        | ((with_reducible (show Calls _ _ #[_, .int .i64 m, _] _ _)); exact Calls.up_of (M3.out _))
        | ((with_reducible (show Calls _ _ #[_, .int .i64 z, _] _ _)); exact Calls.up_of (M4.out _)))
      | (go_at_call 58; first
        | ((with_reducible (show Calls _ _ #[_, .int .i64 u, _] _ _)); exact Calls.up_of (M5.out _))
        | ((with_reducible (show Calls _ _ #[_, .int .i64 v, _] _ _)); exact Calls.up_of (M6.out _))))))
    refine wpQuiet_nil ?_
    rintro _ ⟨p, rfl⟩
    go_wp2
    go_ret
    exact ⟨by rw [HX.out]; rfl, HU6.out.trans p.up⟩
  · have d : (l1 == r1') = false := by simpa using hq
    have hX : T = false := by rw [HE.out, d]; rfl
    subst hX
    clear hq HE
    go_wp2_with fail
    refine wp_region_up (by kernel_rfl) (by kernel_rfl) ?_
    repeat (go_big_quiet_step ((first
      | (go_at_call 57; first
        | ((with_reducible (show Calls _ _ #[_, .int .i64 G, _] _ _)); exact Calls.up_of (M1.out _))
        | ((with_reducible (show Calls _ _ #[_, .int .i64 k1, _] _ _)); exact Calls.up_of (M2.out _))
        | ((with_reducible (show Calls _ _ #[_, .int .i64 m, _] _ _)); exact Calls.up_of (M3.out _))
        | ((with_reducible (show Calls _ _ #[_, .int .i64 z, _] _ _)); exact Calls.up_of (M4.out _)))
      | (go_at_call 58; first
        | ((with_reducible (show Calls _ _ #[_, .int .i64 u, _] _ _)); exact Calls.up_of (M5.out _))
        | ((with_reducible (show Calls _ _ #[_, .int .i64 v, _] _ _)); exact Calls.up_of (M6.out _))))))
    refine wpQuiet_nil ?_
    rintro _ ⟨p, rfl⟩
    go_wp2
    go_ret
    exact ⟨rfl, HU6.out.trans p.up⟩
end Go.Proofs.YtdbhleinhpiohaaGreatDoor
namespace Go.Proofs.YtdbhleinhpiohaaGreatDoor
open Go.RowKit Go.Sp
set_option maxHeartbeats 2000000
set_option maxRecDepth 20000

/-- A signature as a value. -/
abbrev sgn (a b c d : Int) : Value := .agg #[.int .i64 a, .int .i64 b, .int .i64 c, .int .i64 d]
/-- The error of unblinding. -/
def unE (P Q G A B C k1 k2 k3 m z x y c r s u v : Int) : Int := if kvB P Q G A B C k1 k2 k3 = true then (if facB Q s u v = true then (if cvB P Q G A B C k1 k2 k3 m z x y c r = true then 0 else 11) else 2) else 1

theorem up_eq {a b : World} (h : a = b) : Up a b := h ▸ Up.refl _
theorem blk_four {w : World} {b : Nat} {t : TypeId} {p q e d : Value} (h : Blk w b t #[p, q, e, d]) (x y z u : Value) : Blk ((((w.setCell ⟨b, 0, none⟩ x).setCell ⟨b, 1, none⟩ y).setCell ⟨b, 2, none⟩ z).setCell ⟨b, 3, none⟩ u) b t #[x, y, z, u] :=
  (((h.wrote 0 x).wrote 1 y).wrote 2 z).wrote 3 u

/-- The boxes of Unblind. -/
def UnbAt (w : World) (o : Nat) (P Q G A B C k1 k2 k3 m z x y c r sz sa sb sr s u v : Int) : Prop :=
  ViewsAt w o P Q G A B C k1 k2 k3 m z x y c r ∧ Blk w (o + 3) 33 #[.int .i64 sz, .int .i64 sa, .int .i64 sb, .int .i64 sr] ∧ GrpAt w (o + 4) s u v
theorem UnbAt.up {w w' : World} {o : Nat} {P Q G A B C k1 k2 k3 m z x y c r sz sa sb sr s u v : Int} (h : UnbAt w o P Q G A B C k1 k2 k3 m z x y c r sz sa sb sr s u v) (hU : Up w w') : UnbAt w' o P Q G A B C k1 k2 k3 m z x y c r sz sa sb sr s u v := ⟨h.1.up hU, h.2.1.up hU, h.2.2.up hU⟩
theorem unb_new {w : World} {o : Nat} {P Q G A B C k1 k2 k3 m z x y c r sz sa sb sr s u v : Int} (ho : w.heap.size = o) :
    UnbAt (((((w.alloc (.cells #[.int .i64 P, .int .i64 Q, .int .i64 G, .int .i64 A, .int .i64 B, .int .i64 C] 25)).alloc (.cells #[.int .i64 k1, .int .i64 k2, .int .i64 k3] 27)).alloc (.cells #[.int .i64 m, .int .i64 z, .int .i64 x, .int .i64 y, .int .i64 c, .int .i64 r] 29)).alloc (.cells #[.int .i64 sz, .int .i64 sa, .int .i64 sb, .int .i64 sr] 33)).alloc (.cells #[.int .i64 s, .int .i64 u, .int .i64 v] 36)) o P Q G A B C k1 k2 k3 m z x y c r sz sa sb sr s u v :=
  ⟨(views_new ho).up (((Up.refl _).alloc _).alloc _), (Blk.new (by simp [ho]) rfl).alloc _, nums_three (by simp [ho])⟩
/-- The boxes of Unblind, and its result. -/
def ResAt (w : World) (o : Nat) (P Q G A B C k1 k2 k3 m z x y c r sz sa sb sr s u v : Int) : Prop := UnbAt w o P Q G A B C k1 k2 k3 m z x y c r sz sa sb sr s u v ∧ Blk w (o + 5) 33 #[.int .i64 0, .int .i64 0, .int .i64 0, .int .i64 0]
theorem ResAt.up {w w' : World} {o : Nat} {P Q G A B C k1 k2 k3 m z x y c r sz sa sb sr s u v : Int} (h : ResAt w o P Q G A B C k1 k2 k3 m z x y c r sz sa sb sr s u v) (hU : Up w w') : ResAt w' o P Q G A B C k1 k2 k3 m z x y c r sz sa sb sr s u v := ⟨h.1.up hU, h.2.up hU⟩

theorem keepC9 {w0 w w' : World} {o : Nat} {P Q G A B C r u v : Int} (hU : Up w w') (h : w.cell? ⟨o, 0, none⟩ = some (.int .i64 P) ∧ w.cell? ⟨o, 1, none⟩ = some (.int .i64 Q) ∧ w.cell? ⟨o, 2, none⟩ = some (.int .i64 G) ∧ w.cell? ⟨o, 3, none⟩ = some (.int .i64 A) ∧ w.cell? ⟨o, 4, none⟩ = some (.int .i64 B) ∧ w.cell? ⟨o, 5, none⟩ = some (.int .i64 C) ∧ w.cell? ⟨o + 2, 5, none⟩ = some (.int .i64 r) ∧ w.cell? ⟨o + 4, 1, none⟩ = some (.int .i64 u) ∧ w.cell? ⟨o + 4, 2, none⟩ = some (.int .i64 v) ∧ Hid (Up w0 w)) :
    w'.cell? ⟨o, 0, none⟩ = some (.int .i64 P) ∧ w'.cell? ⟨o, 1, none⟩ = some (.int .i64 Q) ∧ w'.cell? ⟨o, 2, none⟩ = some (.int .i64 G) ∧ w'.cell? ⟨o, 3, none⟩ = some (.int .i64 A) ∧ w'.cell? ⟨o, 4, none⟩ = some (.int .i64 B) ∧ w'.cell? ⟨o, 5, none⟩ = some (.int .i64 C) ∧ w'.cell? ⟨o + 2, 5, none⟩ = some (.int .i64 r) ∧ w'.cell? ⟨o + 4, 1, none⟩ = some (.int .i64 u) ∧ w'.cell? ⟨o + 4, 2, none⟩ = some (.int .i64 v) ∧ Hid (Up w0 w') :=
  ⟨cellUp hU h.1, cellUp hU h.2.1, cellUp hU h.2.2.1, cellUp hU h.2.2.2.1, cellUp hU h.2.2.2.2.1, cellUp hU h.2.2.2.2.2.1, cellUp hU h.2.2.2.2.2.2.1, cellUp hU h.2.2.2.2.2.2.2.1, cellUp hU h.2.2.2.2.2.2.2.2.1, hid (h.2.2.2.2.2.2.2.2.2.out.trans hU)⟩
theorem keepC9Store {w0 w w' : World} {o : Nat} {P Q G A B C r u v : Int} {t : Value} (hb : w0.heap.size ≤ o) (hw : w' = w.setCell ⟨o + 3, 3, none⟩ t) (h : w.cell? ⟨o, 0, none⟩ = some (.int .i64 P) ∧ w.cell? ⟨o, 1, none⟩ = some (.int .i64 Q) ∧ w.cell? ⟨o, 2, none⟩ = some (.int .i64 G) ∧ w.cell? ⟨o, 3, none⟩ = some (.int .i64 A) ∧ w.cell? ⟨o, 4, none⟩ = some (.int .i64 B) ∧ w.cell? ⟨o, 5, none⟩ = some (.int .i64 C) ∧ w.cell? ⟨o + 2, 5, none⟩ = some (.int .i64 r) ∧ w.cell? ⟨o + 4, 1, none⟩ = some (.int .i64 u) ∧ w.cell? ⟨o + 4, 2, none⟩ = some (.int .i64 v) ∧ Hid (Up w0 w)) :
    w'.cell? ⟨o, 0, none⟩ = some (.int .i64 P) ∧ w'.cell? ⟨o, 1, none⟩ = some (.int .i64 Q) ∧ w'.cell? ⟨o, 2, none⟩ = some (.int .i64 G) ∧ w'.cell? ⟨o, 3, none⟩ = some (.int .i64 A) ∧ w'.cell? ⟨o, 4, none⟩ = some (.int .i64 B) ∧ w'.cell? ⟨o, 5, none⟩ = some (.int .i64 C) ∧ w'.cell? ⟨o + 2, 5, none⟩ = some (.int .i64 r) ∧ w'.cell? ⟨o + 4, 1, none⟩ = some (.int .i64 u) ∧ w'.cell? ⟨o + 4, 2, none⟩ = some (.int .i64 v) ∧ Hid (Up w0 w') := by
  subst hw
  have key : ∀ k i, k ≠ o + 3 → (w.setCell ⟨o + 3, 3, none⟩ t).cell? ⟨k, i, none⟩ = w.cell? ⟨k, i, none⟩ := fun k i hk => by
    rw [World.cell?_setCell_other]; exact fun h => hk (congrArg Addr.block h).symm
  exact ⟨(key _ _ (by omega)).trans h.1, (key _ _ (by omega)).trans h.2.1, (key _ _ (by omega)).trans h.2.2.1, (key _ _ (by omega)).trans h.2.2.2.1, (key _ _ (by omega)).trans h.2.2.2.2.1, (key _ _ (by omega)).trans h.2.2.2.2.2.1, (key _ _ (by omega)).trans h.2.2.2.2.2.2.1, (key _ _ (by omega)).trans h.2.2.2.2.2.2.2.1, (key _ _ (by omega)).trans h.2.2.2.2.2.2.2.2.1, hid (h.2.2.2.2.2.2.2.2.2.out.setCell (show w0.heap.size ≤ o + 3 by omega) _)⟩
theorem up9 {w1 w : World} {a b c d e f g h i : Prop} (hs : a ∧ b ∧ c ∧ d ∧ e ∧ f ∧ g ∧ h ∧ i ∧ Hid (Up w1 w)) : Up w1 w := hs.2.2.2.2.2.2.2.2.2.out

end Go.Proofs.YtdbhleinhpiohaaGreatDoor
namespace Go.Sp

/-- A word rotated to the right. -/
def rotr (x : Int) (n : Nat) : Int := bits .or .u32 (x / 2 ^ n) (IntKind.u32.wrap (x * 2 ^ (32 - n)))
def sg0 (x : Int) : Int := bits .xor .u32 (bits .xor .u32 (rotr x 7) (rotr x 18)) (x / 8)
def sg1 (x : Int) : Int := bits .xor .u32 (bits .xor .u32 (rotr x 17) (rotr x 19)) (x / 1024)
def bs0 (x : Int) : Int := bits .xor .u32 (bits .xor .u32 (rotr x 2) (rotr x 13)) (rotr x 22)
def bs1 (x : Int) : Int := bits .xor .u32 (bits .xor .u32 (rotr x 6) (rotr x 11)) (rotr x 25)
def chs (e f g : Int) : Int := bits .xor .u32 (bits .and .u32 e f) (bits .and .u32 (bits .xor .u32 4294967295 e) g)
def maj (a b c : Int) : Int := bits .xor .u32 (bits .xor .u32 (bits .and .u32 a b) (bits .and .u32 a c)) (bits .and .u32 b c)
/-- A sum of words. -/
def plus (a b : Int) : Int := IntKind.u32.wrap (a + b)

theorem u32_range (n : Int) : 0 ≤ IntKind.u32.wrap n ∧ IntKind.u32.wrap n ≤ 4294967295 := by
  rw [IntKind.wrap_u32]; omega
theorem bits_range (op : BinOp) (a b : Int) : 0 ≤ bits op .u32 a b ∧ bits op .u32 a b ≤ 4294967295 := u32_range _
theorem rotr_range (x : Int) (n : Nat) : 0 ≤ rotr x n ∧ rotr x n ≤ 4294967295 := bits_range _ _ _
theorem plus_range (a b : Int) : 0 ≤ plus a b ∧ plus a b ≤ 4294967295 := u32_range _

theorem bits_or_comm (a b : Int) : bits .or .u32 a b = bits .or .u32 b a := by
  show IntKind.u32.wrap ((BitVec.ofInt 32 a ||| BitVec.ofInt 32 b).toNat : Int) = IntKind.u32.wrap ((BitVec.ofInt 32 b ||| BitVec.ofInt 32 a).toNat : Int)
  rw [BitVec.or_comm]

/-- The k-th word of a block of bytes. -/
def wordB (b : Nat → Int) (k : Nat) : Int := ((b (4 * k) * 256 + b (4 * k + 1)) * 256 + b (4 * k + 2)) * 256 + b (4 * k + 3)

/-- The words of a block. -/
def wAt (b : Nat → Int) (t : Nat) : Int :=
  if t < 16 then wordB b t else plus (plus (plus (wAt b (t - 16)) (sg0 (wAt b (t - 15)))) (wAt b (t - 7))) (sg1 (wAt b (t - 2)))
termination_by t
decreasing_by all_goals omega

theorem wAt_low {b : Nat → Int} {t : Nat} (h : t < 16) : wAt b t = wordB b t := by rw [wAt, if_pos h]
theorem wAt_high {b : Nat → Int} {t : Nat} (h : 16 ≤ t) : wAt b t = plus (plus (plus (wAt b (t - 16)) (sg0 (wAt b (t - 15)))) (wAt b (t - 7))) (sg1 (wAt b (t - 2))) := by
  rw [wAt, if_neg (by omega)]

/-- Bytes. -/
def Byt (b : Nat → Int) : Prop := ∀ i, 0 ≤ b i ∧ b i ≤ 255

theorem wordB_range {b : Nat → Int} (h : Byt b) (k : Nat) : 0 ≤ wordB b k ∧ wordB b k ≤ 4294967295 := by
  have h0 := h (4 * k)
  have h1 := h (4 * k + 1)
  have h2 := h (4 * k + 2)
  have h3 := h (4 * k + 3)
  unfold wordB; omega

theorem wAt_range {b : Nat → Int} (h : Byt b) (t : Nat) : 0 ≤ wAt b t ∧ wAt b t ≤ 4294967295 := by
  by_cases ht : t < 16
  · rw [wAt_low ht]; exact wordB_range h t
  · rw [wAt_high (by omega)]; exact plus_range _ _

/-- Eight words. -/
structure St where
  (a b c d e f g h : Int)

def St.get (s : St) : Nat → Int
  | 0 => s.a | 1 => s.b | 2 => s.c | 3 => s.d | 4 => s.e | 5 => s.f | 6 => s.g | _ => s.h

/-- The constants of the rounds. -/
def shaK : List Int := [0x428a2f98, 0x71374491, 0xb5c0fbcf, 0xe9b5dba5, 0x3956c25b, 0x59f111f1, 0x923f82a4, 0xab1c5ed5,
  0xd807aa98, 0x12835b01, 0x243185be, 0x550c7dc3, 0x72be5d74, 0x80deb1fe, 0x9bdc06a7, 0xc19bf174,
  0xe49b69c1, 0xefbe4786, 0x0fc19dc6, 0x240ca1cc, 0x2de92c6f, 0x4a7484aa, 0x5cb0a9dc, 0x76f988da,
  0x983e5152, 0xa831c66d, 0xb00327c8, 0xbf597fc7, 0xc6e00bf3, 0xd5a79147, 0x06ca6351, 0x14292967,
  0x27b70a85, 0x2e1b2138, 0x4d2c6dfc, 0x53380d13, 0x650a7354, 0x766a0abb, 0x81c2c92e, 0x92722c85,
  0xa2bfe8a1, 0xa81a664b, 0xc24b8b70, 0xc76c51a3, 0xd192e819, 0xd6990624, 0xf40e3585, 0x106aa070,
  0x19a4c116, 0x1e376c08, 0x2748774c, 0x34b0bcb5, 0x391c0cb3, 0x4ed8aa4a, 0x5b9cca4f, 0x682e6ff3,
  0x748f82ee, 0x78a5636f, 0x84c87814, 0x8cc70208, 0x90befffa, 0xa4506ceb, 0xbef9a3f7, 0xc67178f2]

def shaStart : St := ⟨0x6a09e667, 0xbb67ae85, 0x3c6ef372, 0xa54ff53a, 0x510e527f, 0x9b05688c, 0x1f83d9ab, 0x5be0cd19⟩

/-- What a round adds. -/
def rndX (s : St) (k w : Int) : Int := plus (plus (plus (plus s.h (bs1 s.e)) (chs s.e s.f s.g)) k) w
def rndY (s : St) : Int := plus (bs0 s.a) (maj s.a s.b s.c)
def rnd (s : St) (k w : Int) : St := ⟨plus (rndX s k w) (rndY s), s.a, s.b, s.c, plus s.d (rndX s k w), s.e, s.f, s.g⟩

/-- The state after t rounds over a block. -/
def rnds (b : Nat → Int) (s : St) : Nat → St
  | 0 => s
  | t + 1 => rnd (rnds b s t) (shaK.getD t 0) (wAt b t)

/-- A block mixed into the state. -/
def mixS (b : Nat → Int) (s : St) : St :=
  let v := rnds b s 64
  ⟨plus s.a v.a, plus s.b v.b, plus s.c v.c, plus s.d v.d, plus s.e v.e, plus s.f v.f, plus s.g v.g, plus s.h v.h⟩

theorem mixS_get (b : Nat → Int) (s : St) (i : Nat) : (mixS b s).get i = plus (s.get i) ((rnds b s 64).get i) := by
  unfold St.get mixS
  split <;> rfl

/-- A number in n bytes, the highest first. -/
def beL (n : Nat) (x : Int) : List Int := (List.range n).map fun i => x / 2 ^ (8 * (n - 1 - i)) % 256

theorem beL_length (n : Nat) (x : Int) : (beL n x).length = n := by simp [beL]

/-- The padded form. -/
def padL (xs : List Int) : List Int := xs ++ [128] ++ List.replicate ((119 - xs.length % 64) % 64) 0 ++ beL 8 (8 * xs.length)

theorem padL_length (xs : List Int) : (padL xs).length % 64 = 0 ∧ 64 ≤ (padL xs).length ∧ (padL xs).length ≤ xs.length + 72 := by
  simp [padL, beL_length]; omega

/-- A block of bytes. -/
def blkAt (p : List Int) (k : Nat) : Nat → Int := fun j => p.getD (64 * k + j) 0

/-- The state after k blocks. -/
def blocksS (p : List Int) : Nat → St
  | 0 => shaStart
  | k + 1 => mixS (blkAt p k) (blocksS p k)

/-- The bytes of a state. -/
def outB (s : St) (i : Nat) : Int := s.get (i / 4) / 2 ^ (24 - 8 * (i % 4)) % 256

/-- The digest of bytes. -/
def shaB (xs : List Int) : Nat → Int := outB (blocksS (padL xs) ((padL xs).length / 64))

/-- The 32 bytes of a digest as a list. -/
def hList (h : Nat → Int) : List Int := (List.range 32).map h
theorem hList_length (h : Nat → Int) : (hList h).length = 32 := by simp [hList]

/-- The tagged digest. -/
def tagB (tag xs : List Int) : Nat → Int := shaB (hList (shaB tag) ++ hList (shaB tag) ++ xs)

theorem outB_range (s : St) (i : Nat) : 0 ≤ outB s i ∧ outB s i ≤ 255 := by
  unfold outB
  constructor
  · exact Int.emod_nonneg _ (by decide)
  · have := Int.emod_lt_of_pos (s.get (i / 4) / 2 ^ (24 - 8 * (i % 4))) (show (0 : Int) < 256 by decide); omega
theorem shaB_range (xs : List Int) (i : Nat) : 0 ≤ shaB xs i ∧ shaB xs i ≤ 255 := outB_range _ _
theorem tagB_range (t xs : List Int) (i : Nat) : 0 ≤ tagB t xs i ∧ tagB t xs i ≤ 255 := outB_range _ _

/-- The number of a digest modulo m, of its first k bytes. -/
def numB (h : Nat → Int) (m : Int) : Nat → Int
  | 0 => 0
  | k + 1 => (numB h m k * 256 + h k) % m
def numH (h : Nat → Int) (m : Int) : Int := numB h m 16

theorem numB_range {h : Nat → Int} {m : Int} (hm : 0 < m) : ∀ k, 0 ≤ numB h m k ∧ numB h m k < m
  | 0 => ⟨Int.le_refl _, hm⟩
  | k + 1 => ⟨Int.emod_nonneg _ (by omega), Int.emod_lt_of_pos _ hm⟩

end Go.Sp
