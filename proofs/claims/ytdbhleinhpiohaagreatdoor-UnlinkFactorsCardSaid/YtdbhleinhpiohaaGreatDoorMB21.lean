/- Logarithms. Logarithms that there are not. Slices of integers of the call's own: what an append leaves. The reference's elements of a small group. All elements of a small group: the powers of the generator, in order. -/
import Derived.Test.YtdbhleinhpiohaaGreatDoorMB20
import Derived.Test.YtdbhleinhpiohaaGreatDoorMB3
import Derived.Test.YtdbhleinhpiohaaGreatDoorMB7
import Derived.Test.YtdbhleinhpiohaaGreatDoorMB18
import Derived.BigQuiet
import Derived.IntWalk
namespace Go.Proofs.YtdbhleinhpiohaaGreatDoor
open Go.RowKit Go.Sp Go.Maps
set_option maxHeartbeats 1000000
set_option maxRecDepth 20000

theorem keyedInt : Keyed Tryz.prog 3 := int_keyed Tryz.underlying3
theorem zeroInt (w : World) : (zeroValue 3).run Tryz.prog w = .ok (.int .i64 0) w := by kernel_rfl

theorem GrpAt.grown {w w' : World} {b B : Nat} {P Q G : Int} (h : GrpAt w b P Q G) (hg : w.grownBy w' (some B)) (hne : b < B) : GrpAt w' b P Q G := by
  obtain ⟨q0, q1, q2⟩ := h
  have hk := hg.block b (cell_lt q0) (fun e => by injection e; omega)
  exact ⟨by rw [World.cell?_of_block (w := w) hk]; exact q0, by rw [World.cell?_of_block (w := w) hk]; exact q1, by rw [World.cell?_of_block (w := w) hk]; exact q2⟩

theorem wf_i64 {x : Int} (h0 : -9223372036854775808 ≤ x) (h1 : x ≤ 9223372036854775807) : (Lit.int .i64 x).wf = true := by
  have a : IntKind.i64.min = -9223372036854775808 := by decide
  have b : IntKind.i64.max = 9223372036854775807 := by decide
  simp [Lit.wf, a, b, h0, h1]

theorem ownsMap_up {H : Type} {w w' : World} {P : Program} {k : TypeId} {R : Value → Option (DataW H × List MemPlace)} {b n : Nat} {D : DataW H} (h : w.ownsMap P k R b n D) (hU : Up w w') : w'.ownsMap P k R b n D := by
  obtain ⟨es, cl, hb, rest⟩ := h
  exact ⟨es, cl, by rw [hU.block (Array.getElem?_eq_some_iff.1 hb).1]; exact hb, rest⟩

theorem Log_ok (P Q G b x : Int) (n : Nat) (w : World) (hT : Tab w) (hg : gvB P Q G = true) (hQ : Q ≤ 1048576) (hb : elB P Q b = true) (hb1 : b ≠ 1) (hx : elB P Q x = true) (hn : n < Q.toNat) (hxn : x = pw b n P)
    (huniq : ∀ m : Nat, m < Q.toNat → pw b m P = x → m = n) :
    Calls Tryz.prog 16 #[grp P Q G, .int .i64 b, .int .i64 x] w fun e w' => e = .returned (.tuple #[.int .i64 n, .int .i64 0]) ∧ Up w w' := by
  have HT := hid hT
  have g := gv_iff.1 hg
  have g1 := g.P61
  have g2 := g.P4
  have g3 := g.Q3
  obtain ⟨b0, b1, _⟩ := el_iff.1 hb
  obtain ⟨x0, x1, _⟩ := el_iff.1 hx
  have HA := hid (chkI_ok (xs := [b, x]) hg (by simp [hb, hx]))
  have Hb := hid hb
  have Hx := hid hx
  have Hg := hid hg
  have Hxn := hid hxn
  have HU := hid huniq
  have d1 : (b == 1) = false := by simp [hb1]
  have d2 : decide (Q > 1048576) = false := by simp; omega
  have d3 : decide (1048576 < Q) = false := by simp; omega
  clear hT g hg hb hx hxn huniq hb1
  have hmm := @run_makeMap Tryz.prog
  go_enter Tryz.func16, Tryz.ntmps16
  go_wp2_with fail
  refine (gcheck_any P Q G _ [b, x] _ (by omega) (by omega) (HT.out.up (((Up.refl w).alloc _).alloc _)) (ints_two (by go_simp) (by go_simp))).mono ?_
  rintro e w1 ⟨rfl, hU1⟩
  rw [HA.out]
  have HU1 := hid ((((Up.refl w).alloc _).alloc _).trans hU1)
  have HG := hid ((box_reads rfl ((Up.refl _).alloc _)).up hU1)
  clear hU1
  obtain ⟨c0, c1, c2⟩ := HG.out
  go_wp2_with fail
  obtain ⟨o, ho⟩ : ∃ o, w.heap.size = o := ⟨_, rfl⟩
  obtain ⟨B, hB⟩ : ∃ B, w1.heap.size = B := ⟨_, rfl⟩
  have hoB : o < B := by have := cell_lt c0; omega
  have Ho := hid ho
  have HB := hid hB
  have HM0 := hid (World.ownsMap_made (H := Nat) w1 Tryz.prog 3 (plainElem Tryz.prog 3))
  have HUm := hid (HU1.out.alloc (.map #[] 0))
  have HGm := hid (HG.out.up ((Up.refl w1).alloc (.map #[] 0)))
  rw [hB] at HM0
  rw [ho] at HGm
  rw [ho, hB]
  clear c0 c1 c2 HG
  go_loopw [10, 35] (fun vy vi wr => ∃ i : Nat, i ≤ 1024 ∧ vy = .int .i64 (x * pw b i P % P) ∧ vi = .int .i64 i ∧ wr.ownsMap Tryz.prog 3 (plainElem Tryz.prog 3) B i (baby Nat P b x i) ∧ Up w wr ∧ GrpAt wr o P Q G) (fun _ vi _ => 1024 - (intOf vi).toNat)
  case atStart => exact ⟨0, by omega, by rw [pw_zero, Int.emod_eq_of_lt (show (0 : Int) ≤ 1 by omega) (by omega), Int.mul_one, Int.emod_eq_of_lt (by omega) x1], rfl, HM0.out, HUm.out, HGm.out⟩
  case round =>
    obtain ⟨i, hi, rfl, rfl, hown, hU, hG⟩ := hrel
    have HUr := hid hU
    have HGr := hid hG
    have Hown := hid hown
    obtain ⟨c0, c1, c2⟩ := hG
    have hBs : B < wr.heap.size := by
      obtain ⟨es, cl, hb, _⟩ := hown
      exact (Array.getElem?_eq_some_iff.1 hb).1
    have p0 := pw_nonneg b i (show 0 < P by omega)
    by_cases hl : i < 1024
    · have y0 := Int.emod_nonneg (x * pw b i P) (show P ≠ 0 by omega)
      have y1 := Int.emod_lt_of_pos (x * pw b i P) (show 0 < P by omega)
      have HN : Hid (x * pw b i P % P * b % P = x * pw b (i + 1) P % P) := hid (by
        rw [pw_add, pw_one_exp (by omega) b1, emul (emod_self (x * pw b i P) P) (rfl : b % P = b % P), Int.mul_assoc, ← emul (rfl : x % P = x % P) (emod_self (pw b i P * b) P)])
      have HS : Hid (baby Nat P b x (i + 1) = (baby Nat P b x i).put (.int .i64 (x * pw b i P % P)) (.lit (.int .i64 i))) := hid rfl
      have hkey : keyOf Tryz.prog 3 (.int .i64 (x * pw b i P % P)) = some (.int .i64 (x * pw b i P % P)) := keyOf_int_mk Tryz.underlying3 (wf_i64 (by omega) (by omega))
      have hval : plainElem (H := Nat) Tryz.prog 3 (.int .i64 (i : Int)) = some (.lit (.int .i64 (i : Int)), []) := plainElem_int Tryz.underlying3 (wf_i64 (by omega) (by omega))
      clear hU p0
      generalize baby Nat P b x i = D at *
      generalize x * pw b i P % P = y at *
      go_wp2_with (at_mapUpdate; refine wpList_mapUpdate_own _ rfl _ _ _ 85 rfl 3 3 keyedInt Tryz.underlying85 _ B i _ rfl hown (by unfold maxLen; omega) _ _ _ rfl rfl hkey _ [] hval ?_; intro w2 hown2 hgrow2; have HG2 := hid (HGr.out.grown hgrow2 hoB); obtain ⟨c0, c1, c2⟩ := HG2.out)
      have HU2 := hid (up_grown HUr.out hgrow2 (fun k hk => by injection hk; rw [Ho.out]; omega))
      refine (Mul_ok y b P _ y0 y1 (by omega) b1 g1).mono ?_
      rintro e w3 ⟨rfl, hU3⟩
      rw [HN.out]
      have HO3 := hid (ownsMap_up hown2 hU3)
      rw [← HS.out] at HO3
      have HU3 := hid (HU2.out.trans hU3)
      have HG3 := hid (HG2.out.up hU3)
      clear hU3 hown2 hgrow2 hown c0 c1 c2 HS
      go_wp2_with fail
      go_roundw
      case rel => exact ⟨i + 1, by omega, rfl, by go_num, HO3.out, HU3.out, HG3.out⟩
      case measure => simp [intOf]; omega
    · obtain rfl : i = 1024 := by omega
      rw [show ((1024 : Nat) : Int) = 1024 from rfl]
      clear hU hown
      have hQ0 : (Q == 0) = false := by simp; omega
      have r0 := Int.emod_nonneg 1024 (show Q ≠ 0 by omega)
      have r1 := Int.emod_lt_of_pos 1024 (show 0 < Q by omega)
      have HP : Hid (pw b (1024 % Q).toNat P = pw b 1024 P) := hid (by
        rw [← pw_mod (by omega) Hb.out 1024]
        congr 1
        obtain ⟨q, rfl⟩ : ∃ q : Nat, Q = q := ⟨Q.toNat, by omega⟩
        rw [Int.toNat_natCast]
        have : (1024 : Int) % (q : Int) = ((1024 % q : Nat) : Int) := by rw [Int.natCast_emod]; rfl
        omega)
      have hQn : ¬ (Q = 0) := by omega
      have hT1 : (1024 : Int).tmod Q = 1024 % Q := Int.tmod_eq_emod_of_nonneg (by omega)
      have hT2 : IntKind.i64.wrap (1024 % Q) = 1024 % Q := IntWalk.i64_in _ (by omega)
      go_wp2_with fail
      go_cut [12, 13] from 50 (fun va vb w' => va = .int .i64 (pw b 1024 P) ∧ vb = .int .i64 0 ∧ Up wr w')
      case first =>
        have hS0 := And.intro c0 (And.intro c1 (And.intro c2 (hid (Up.refl wr))))
        clear c0 c1 c2
        go_region_held3 (fun w' => w'.cell? ⟨o, 0, none⟩ = some (.int .i64 P) ∧ w'.cell? ⟨o, 1, none⟩ = some (.int .i64 Q) ∧ w'.cell? ⟨o, 2, none⟩ = some (.int .i64 G) ∧ Hid (Up wr w')) (first | exact keepG ((Up.refl _).drew) (by assumption) | exact keepG ((Up.refl _).alloc _) (by assumption) | exact keepG (by assumption) (by assumption)) (first
          | (go_at_call 46; refine (Pow_ok b (1024 % Q) P _ (by omega) b1 r0 (by omega) g1).mono ?_; rintro e w9 ⟨rfl, hU9⟩; rw [HP.out]))
        all_goals (go_wp2_with fail; go_meet)
        all_goals exact ⟨rfl, rfl, upOf (by assumption)⟩
      case rest =>
        obtain ⟨rfl, rfl, hU9⟩ := hcut
        have HG9 := hid (HGr.out.up hU9)
        have HU9 := hid (HUr.out.trans hU9)
        have HO9 := hid (ownsMap_up Hown.out hU9)
        clear hU9 HP r0 r1
        obtain ⟨c0, c1, c2⟩ := HG9.out
        go_wp2_with fail
        obtain ⟨K, hK⟩ : ∃ K : Nat, (n + 1023) / 1024 = K := ⟨_, rfl⟩
        have HK := hid hK
        have hKb : (K : Int) < Q / 1024 + 2 := by omega
        have Hhit : Hid (pw b (1024 * K) P = x * pw b (1024 * K - n) P % P ∧ 1024 * K - n < 1024) := hid (by
          refine ⟨?_, by omega⟩
          rw [Hxn.out, ← pw_add, show n + (1024 * K - n) = 1024 * K by omega])
        clear hK c0 c1 c2
        go_loopw [14, 64] (fun vz vk wr2 => ∃ k : Nat, k ≤ K ∧ vz = .int .i64 (pw b (1024 * k) P) ∧ vk = .int .i64 k ∧ wr2.ownsMap Tryz.prog 3 (plainElem Tryz.prog 3) B 1024 (baby Nat P b x 1024) ∧ Up w wr2 ∧ GrpAt wr2 o P Q G) (fun _ vk _ => K + 1 - (intOf vk).toNat)
        case atStart => exact ⟨0, by omega, by rw [Nat.mul_zero, pw_zero, Int.emod_eq_of_lt (by omega) (by omega)], rfl, HO9.out, HU9.out, HG9.out⟩
        case round =>
          obtain ⟨k, hk, rfl, rfl, hown, hU, hG⟩ := hrel
          have HUr := hid hU
          have HGr := hid hG
          obtain ⟨c0, c1, c2⟩ := hG
          have z0 := pw_nonneg b (1024 * k) (show 0 < P by omega)
          have z1 := pw_lt b (1024 * k) (show 0 < P by omega)
          have hlt : (k : Int) < Q / 1024 + 2 := by omega
          have HNx : Hid (pw b (1024 * k) P * pw b 1024 P % P = pw b (1024 * (k + 1)) P) := hid (by rw [← pw_add, show 1024 * k + 1024 = 1024 * (k + 1) by omega])
          have Hmeet : Hid (Maps.has (baby Nat P b x 1024) (.int .i64 (pw b (1024 * k) P)) = true → ∃ j : Nat, j < 1024 ∧ ((k : Int) * 1024 - j) % Q = n ∧ ∀ z0, (baby Nat P b x 1024).atKey (.int .i64 (pw b (1024 * k) P)) z0 = .lit (.int .i64 j)) := hid (by
            intro h
            obtain ⟨j, hj, hz, ha⟩ := baby_has 1024 _ h
            have hm := meets (by omega) (by omega) Hb.out Hx.out (k := k) (j := j) hz
            have r0 := Int.emod_nonneg ((k : Int) * 1024 - j) (show Q ≠ 0 by omega)
            have r1 := Int.emod_lt_of_pos ((k : Int) * 1024 - j) (show 0 < Q by omega)
            have := HU.out _ (by omega) hm
            exact ⟨j, hj, by omega, ha⟩)
          have Hmiss : Hid (Maps.has (baby Nat P b x 1024) (.int .i64 (pw b (1024 * k) P)) = false → k < K) := hid (by
            intro h
            refine Nat.lt_of_le_of_ne hk fun e => ?_
            subst e
            have := baby_there (H := Nat) (P := P) (b := b) (x := x) 1024 (1024 * k - n) Hhit.out.2
            rw [← Hhit.out.1, h] at this
            cases this)
          have hkey : keyOf Tryz.prog 3 (.int .i64 (pw b (1024 * k) P)) = some (.int .i64 (pw b (1024 * k) P)) := keyOf_int_mk Tryz.underlying3 (wf_i64 (by omega) (by omega))
          have Hown := hid hown
          clear hU
          generalize pw b (1024 * k) P = z at *
          generalize baby Nat P b x 1024 = D at *
          have hK1 : K ≤ 1030 := by omega
          by_cases hh : Maps.has D (.int .i64 z) = true
          · obtain ⟨j, hj, hm, ha⟩ := Hmeet.out hh
            have hm' := hid hm
            have ha' := hid (ha (.lit (.int .i64 0)))
            have HRd := hid (Reduce_ok ((k : Int) * 1024 - j) Q · (by omega) (by omega) (by omega) (by omega))
            clear hm ha
            go_wp2_with (at_lookup; refine wpList_lookup_own_ok_int _ rfl _ _ 85 rfl 3 3 .i64 keyedInt Tryz.underlying85 Tryz.underlying3 (zeroInt _) B 1024 _ rfl hown _ _ rfl hkey ?_; intro c hat hwc; obtain rfl : c = j := (by have := hat.symm.trans ha'.out; injection this with h1; injection h1); clear hat hwc; rw [hh])
            refine (HRd.out _).mono ?_
            rintro e w4 ⟨rfl, rfl⟩
            rw [hm'.out]
            go_wp2
            go_ret2
            exact ⟨rfl, HUr.out⟩
          · have hh' : Maps.has D (.int .i64 z) = false := by simpa using hh
            have hkK := Hmiss.out hh'
            have q0 := pw_nonneg b 1024 (show 0 < P by omega)
            have q1 := pw_lt b 1024 (show 0 < P by omega)
            clear hh
            go_wp2_with (at_lookup; refine wpList_lookup_own_ok_int _ rfl _ _ 85 rfl 3 3 .i64 keyedInt Tryz.underlying85 Tryz.underlying3 (zeroInt _) B 1024 _ rfl hown _ _ rfl hkey ?_; intro c hat hwc; clear hat hwc; rw [hh'])
            refine (Mul_ok z (pw b 1024 P) P _ z0 z1 q0 q1 g1).mono ?_
            rintro e w4 ⟨rfl, hU4⟩
            rw [HNx.out]
            have HU4 := hid (HUr.out.trans hU4)
            have HG4 := hid (HGr.out.up hU4)
            have HO4 := hid (ownsMap_up Hown.out hU4)
            clear hU4
            go_wp2_with fail
            go_roundw
            case rel => exact ⟨k + 1, by omega, rfl, by go_num, HO4.out, HU4.out, HG4.out⟩
            case measure => simp [intOf]; omega
end Go.Proofs.YtdbhleinhpiohaaGreatDoor
namespace Go.Proofs.YtdbhleinhpiohaaGreatDoor
open Go.RowKit Go.Sp Go.Maps
set_option maxHeartbeats 1000000
set_option maxRecDepth 20000

theorem Log_none (P Q G b x : Int) (w : World) (hT : Tab w) (hg : gvB P Q G = true) (hQ : Q ≤ 1048576) (hb : elB P Q b = true) (hb1 : b ≠ 1) (hx : elB P Q x = true) (huniq : ∀ m : Nat, m < Q.toNat → pw b m P ≠ x) :
    Calls Tryz.prog 16 #[grp P Q G, .int .i64 b, .int .i64 x] w fun e w' => e = .returned (.tuple #[.int .i64 0, .int .i64 7]) ∧ Up w w' := by
  have HT := hid hT
  have g := gv_iff.1 hg
  have g1 := g.P61
  have g2 := g.P4
  have g3 := g.Q3
  obtain ⟨b0, b1, _⟩ := el_iff.1 hb
  obtain ⟨x0, x1, _⟩ := el_iff.1 hx
  have HA := hid (chkI_ok (xs := [b, x]) hg (by simp [hb, hx]))
  have Hb := hid hb
  have Hx := hid hx
  have Hg := hid hg
  have HU := hid huniq
  have d1 : (b == 1) = false := by simp [hb1]
  have d2 : decide (Q > 1048576) = false := by simp; omega
  have d3 : decide (1048576 < Q) = false := by simp; omega
  clear hT g hg hb hx huniq hb1
  have hmm := @run_makeMap Tryz.prog
  go_enter Tryz.func16, Tryz.ntmps16
  go_wp2_with fail
  refine (gcheck_any P Q G _ [b, x] _ (by omega) (by omega) (HT.out.up (((Up.refl w).alloc _).alloc _)) (ints_two (by go_simp) (by go_simp))).mono ?_
  rintro e w1 ⟨rfl, hU1⟩
  rw [HA.out]
  have HU1 := hid ((((Up.refl w).alloc _).alloc _).trans hU1)
  have HG := hid ((box_reads rfl ((Up.refl _).alloc _)).up hU1)
  clear hU1
  obtain ⟨c0, c1, c2⟩ := HG.out
  go_wp2_with fail
  obtain ⟨o, ho⟩ : ∃ o, w.heap.size = o := ⟨_, rfl⟩
  obtain ⟨B, hB⟩ : ∃ B, w1.heap.size = B := ⟨_, rfl⟩
  have hoB : o < B := by have := cell_lt c0; omega
  have Ho := hid ho
  have HB := hid hB
  have HM0 := hid (World.ownsMap_made (H := Nat) w1 Tryz.prog 3 (plainElem Tryz.prog 3))
  have HUm := hid (HU1.out.alloc (.map #[] 0))
  have HGm := hid (HG.out.up ((Up.refl w1).alloc (.map #[] 0)))
  rw [hB] at HM0
  rw [ho] at HGm
  rw [ho, hB]
  clear c0 c1 c2 HG
  go_loopw [10, 35] (fun vy vi wr => ∃ i : Nat, i ≤ 1024 ∧ vy = .int .i64 (x * pw b i P % P) ∧ vi = .int .i64 i ∧ wr.ownsMap Tryz.prog 3 (plainElem Tryz.prog 3) B i (baby Nat P b x i) ∧ Up w wr ∧ GrpAt wr o P Q G) (fun _ vi _ => 1024 - (intOf vi).toNat)
  case atStart => exact ⟨0, by omega, by rw [pw_zero, Int.emod_eq_of_lt (show (0 : Int) ≤ 1 by omega) (by omega), Int.mul_one, Int.emod_eq_of_lt (by omega) x1], rfl, HM0.out, HUm.out, HGm.out⟩
  case round =>
    obtain ⟨i, hi, rfl, rfl, hown, hU, hG⟩ := hrel
    have HUr := hid hU
    have HGr := hid hG
    have Hown := hid hown
    obtain ⟨c0, c1, c2⟩ := hG
    have hBs : B < wr.heap.size := by
      obtain ⟨es, cl, hb, _⟩ := hown
      exact (Array.getElem?_eq_some_iff.1 hb).1
    have p0 := pw_nonneg b i (show 0 < P by omega)
    by_cases hl : i < 1024
    · have y0 := Int.emod_nonneg (x * pw b i P) (show P ≠ 0 by omega)
      have y1 := Int.emod_lt_of_pos (x * pw b i P) (show 0 < P by omega)
      have HN : Hid (x * pw b i P % P * b % P = x * pw b (i + 1) P % P) := hid (by
        rw [pw_add, pw_one_exp (by omega) b1, emul (emod_self (x * pw b i P) P) (rfl : b % P = b % P), Int.mul_assoc, ← emul (rfl : x % P = x % P) (emod_self (pw b i P * b) P)])
      have HS : Hid (baby Nat P b x (i + 1) = (baby Nat P b x i).put (.int .i64 (x * pw b i P % P)) (.lit (.int .i64 i))) := hid rfl
      have hkey : keyOf Tryz.prog 3 (.int .i64 (x * pw b i P % P)) = some (.int .i64 (x * pw b i P % P)) := keyOf_int_mk Tryz.underlying3 (wf_i64 (by omega) (by omega))
      have hval : plainElem (H := Nat) Tryz.prog 3 (.int .i64 (i : Int)) = some (.lit (.int .i64 (i : Int)), []) := plainElem_int Tryz.underlying3 (wf_i64 (by omega) (by omega))
      clear hU p0
      generalize baby Nat P b x i = D at *
      generalize x * pw b i P % P = y at *
      go_wp2_with (at_mapUpdate; refine wpList_mapUpdate_own _ rfl _ _ _ 85 rfl 3 3 keyedInt Tryz.underlying85 _ B i _ rfl hown (by unfold maxLen; omega) _ _ _ rfl rfl hkey _ [] hval ?_; intro w2 hown2 hgrow2; have HG2 := hid (HGr.out.grown hgrow2 hoB); obtain ⟨c0, c1, c2⟩ := HG2.out)
      have HU2 := hid (up_grown HUr.out hgrow2 (fun k hk => by injection hk; rw [Ho.out]; omega))
      refine (Mul_ok y b P _ y0 y1 (by omega) b1 g1).mono ?_
      rintro e w3 ⟨rfl, hU3⟩
      rw [HN.out]
      have HO3 := hid (ownsMap_up hown2 hU3)
      rw [← HS.out] at HO3
      have HU3 := hid (HU2.out.trans hU3)
      have HG3 := hid (HG2.out.up hU3)
      clear hU3 hown2 hgrow2 hown c0 c1 c2 HS
      go_wp2_with fail
      go_roundw
      case rel => exact ⟨i + 1, by omega, rfl, by go_num, HO3.out, HU3.out, HG3.out⟩
      case measure => simp [intOf]; omega
    · obtain rfl : i = 1024 := by omega
      rw [show ((1024 : Nat) : Int) = 1024 from rfl]
      clear hU hown
      have hQ0 : (Q == 0) = false := by simp; omega
      have r0 := Int.emod_nonneg 1024 (show Q ≠ 0 by omega)
      have r1 := Int.emod_lt_of_pos 1024 (show 0 < Q by omega)
      have HP : Hid (pw b (1024 % Q).toNat P = pw b 1024 P) := hid (by
        rw [← pw_mod (by omega) Hb.out 1024]
        congr 1
        obtain ⟨q, rfl⟩ : ∃ q : Nat, Q = q := ⟨Q.toNat, by omega⟩
        rw [Int.toNat_natCast]
        have : (1024 : Int) % (q : Int) = ((1024 % q : Nat) : Int) := by rw [Int.natCast_emod]; rfl
        omega)
      have hQn : ¬ (Q = 0) := by omega
      have hT1 : (1024 : Int).tmod Q = 1024 % Q := Int.tmod_eq_emod_of_nonneg (by omega)
      have hT2 : IntKind.i64.wrap (1024 % Q) = 1024 % Q := IntWalk.i64_in _ (by omega)
      go_wp2_with fail
      go_cut [12, 13] from 50 (fun va vb w' => va = .int .i64 (pw b 1024 P) ∧ vb = .int .i64 0 ∧ Up wr w')
      case first =>
        have hS0 := And.intro c0 (And.intro c1 (And.intro c2 (hid (Up.refl wr))))
        clear c0 c1 c2
        go_region_held3 (fun w' => w'.cell? ⟨o, 0, none⟩ = some (.int .i64 P) ∧ w'.cell? ⟨o, 1, none⟩ = some (.int .i64 Q) ∧ w'.cell? ⟨o, 2, none⟩ = some (.int .i64 G) ∧ Hid (Up wr w')) (first | exact keepG ((Up.refl _).drew) (by assumption) | exact keepG ((Up.refl _).alloc _) (by assumption) | exact keepG (by assumption) (by assumption)) (first
          | (go_at_call 46; refine (Pow_ok b (1024 % Q) P _ (by omega) b1 r0 (by omega) g1).mono ?_; rintro e w9 ⟨rfl, hU9⟩; rw [HP.out]))
        all_goals (go_wp2_with fail; go_meet)
        all_goals exact ⟨rfl, rfl, upOf (by assumption)⟩
      case rest =>
        obtain ⟨rfl, rfl, hU9⟩ := hcut
        have HG9 := hid (HGr.out.up hU9)
        have HU9 := hid (HUr.out.trans hU9)
        have HO9 := hid (ownsMap_up Hown.out hU9)
        clear hU9 HP r0 r1
        obtain ⟨c0, c1, c2⟩ := HG9.out
        go_wp2_with fail
        obtain ⟨K, hK⟩ : ∃ K : Nat, (Q / 1024 + 2).toNat = K := ⟨_, rfl⟩
        have HK : Hid (Q / 1024 + 2 = (K : Int)) := hid (by omega)
        clear hK c0 c1 c2
        go_loopw [14, 64] (fun vz vk wr2 => ∃ k : Nat, k ≤ K ∧ vz = .int .i64 (pw b (1024 * k) P) ∧ vk = .int .i64 k ∧ wr2.ownsMap Tryz.prog 3 (plainElem Tryz.prog 3) B 1024 (baby Nat P b x 1024) ∧ Up w wr2 ∧ GrpAt wr2 o P Q G) (fun _ vk _ => K + 1 - (intOf vk).toNat)
        case atStart => exact ⟨0, by omega, by rw [Nat.mul_zero, pw_zero, Int.emod_eq_of_lt (by omega) (by omega)], rfl, HO9.out, HU9.out, HG9.out⟩
        case round =>
          obtain ⟨k, hk, rfl, rfl, hown, hU, hG⟩ := hrel
          have HUr := hid hU
          have HGr := hid hG
          obtain ⟨c0, c1, c2⟩ := hG
          have z0 := pw_nonneg b (1024 * k) (show 0 < P by omega)
          have z1 := pw_lt b (1024 * k) (show 0 < P by omega)
          have HNx : Hid (pw b (1024 * k) P * pw b 1024 P % P = pw b (1024 * (k + 1)) P) := hid (by rw [← pw_add, show 1024 * k + 1024 = 1024 * (k + 1) by omega])
          have hh' : Maps.has (baby Nat P b x 1024) (.int .i64 (pw b (1024 * k) P)) = false := by
            cases h : Maps.has (baby Nat P b x 1024) (.int .i64 (pw b (1024 * k) P)) with
            | false => rfl
            | true =>
              obtain ⟨j, hj, hz, ha⟩ := baby_has 1024 _ h
              have hm := meets (by omega) (by omega) Hb.out Hx.out (k := k) (j := j) hz
              have r0 := Int.emod_nonneg ((k : Int) * 1024 - j) (show Q ≠ 0 by omega)
              have r1 := Int.emod_lt_of_pos ((k : Int) * 1024 - j) (show 0 < Q by omega)
              exact absurd hm (HU.out _ (by omega))
          have hkey : keyOf Tryz.prog 3 (.int .i64 (pw b (1024 * k) P)) = some (.int .i64 (pw b (1024 * k) P)) := keyOf_int_mk Tryz.underlying3 (wf_i64 (by omega) (by omega))
          have Hown := hid hown
          clear hU
          generalize pw b (1024 * k) P = z at *
          generalize baby Nat P b x 1024 = D at *
          have hK1 : K ≤ 1030 := by have := HK.out; omega
          have q0 := pw_nonneg b 1024 (show 0 < P by omega)
          have q1 := pw_lt b 1024 (show 0 < P by omega)
          by_cases hkK : k < K
          · have hlt : (k : Int) < Q / 1024 + 2 := by have := HK.out; omega
            go_wp2_with (at_lookup; refine wpList_lookup_own_ok_int _ rfl _ _ 85 rfl 3 3 .i64 keyedInt Tryz.underlying85 Tryz.underlying3 (zeroInt _) B 1024 _ rfl hown _ _ rfl hkey ?_; intro c hat hwc; clear hat hwc; rw [hh'])
            refine (Mul_ok z (pw b 1024 P) P _ z0 z1 q0 q1 g1).mono ?_
            rintro e w4 ⟨rfl, hU4⟩
            rw [HNx.out]
            have HU4 := hid (HUr.out.trans hU4)
            have HG4 := hid (HGr.out.up hU4)
            have HO4 := hid (ownsMap_up Hown.out hU4)
            clear hU4
            go_wp2_with fail
            go_roundw
            case rel => exact ⟨k + 1, by omega, rfl, by go_num, HO4.out, HU4.out, HG4.out⟩
            case measure => simp [intOf]; omega
          · have hge : ¬ ((k : Int) < Q / 1024 + 2) := by have := HK.out; omega
            go_wp2
            go_ret2
            exact ⟨rfl, HUr.out⟩
end Go.Proofs.YtdbhleinhpiohaaGreatDoor
namespace Go.Proofs.YtdbhleinhpiohaaGreatDoor
open Go.RowKit Go.Sp

theorem OwnI.shape {w : World} {base : Nat} {v : Value} {xs : List Int} (h : OwnI w base v xs) : ∃ p cap, v = .slice p xs.length cap := by
  rcases h.2 with ⟨hv, hn⟩ | ⟨g, cap, cur, rfl, _⟩
  · exact ⟨none, 0, by rw [hv, hn]⟩
  · exact ⟨_, cap, rfl⟩

theorem OwnI.block {w : World} {base : Nat} {v : Value} {xs : List Int} (h : OwnI w base v xs) (k : Nat) (hk : v.ownBlock = some k) : base ≤ k := by
  rcases h.2 with ⟨hv, _⟩ | ⟨g, cap, cur, rfl, hb, _⟩
  · rw [hv] at hk; cases hk
  · simp [Value.ownBlock] at hk; omega

theorem GrpAt.below {w w' : World} {B b : Nat} {P Q G : Int} (h : GrpAt w b P Q G) (hb : b < B) (hU : Below B w w') : GrpAt w' b P Q G := by
  obtain ⟨q0, q1, q2⟩ := h
  exact ⟨by rw [hU.cell hb]; exact q0, by rw [hU.cell hb]; exact q1, by rw [hU.cell hb]; exact q2⟩

/-- What an append of one number to a list of one's own leaves. -/
theorem appended {w w1 w2 : World} {base n : Nat} {v v' : Value} {xs : List Int} {x : Int} {o : Obj} (hl : xs.length = n) (h : OwnI w1 base v xs) (hown : w2.ownsRow base 3 1 v' (n + 1) (xs.map (Value.int .i64) ++ [Value.int .i64 x])) (hgr : (w1.alloc o).grownBy w2 v.ownBlock) (hU : Up w w1) (hw : w.heap.size ≤ base) (hb : base ≤ w1.heap.size) :
    OwnI w2 base v' (xs ++ [x]) ∧ Up w w2 ∧ Below base w1 w2 := by
  refine ⟨?_, up_grown (hU.alloc _) hgr fun k hk => Nat.le_trans hw (h.block k hk), Below.grown (Below.alloc (Below.refl base w1) hb o) hgr (by simp; omega) fun k hk => h.block k hk⟩
  unfold OwnI
  rw [List.length_append, hl, List.map_append]
  exact hown

theorem OwnI.row {w : World} {base n : Nat} {v : Value} {xs : List Int} (h : OwnI w base v xs) (hl : xs.length = n) : w.ownsRow base 3 1 v n (xs.map (Value.int .i64)) := by
  subst hl
  exact h

theorem OwnI.slice {w : World} {base : Nat} {v : Value} {xs : List Int} (h : OwnI w base v xs) : ∃ p n cap, v = .slice p n cap := by
  obtain ⟨p, cap, hv⟩ := h.shape
  exact ⟨p, _, cap, hv⟩
end Go.Proofs.YtdbhleinhpiohaaGreatDoor
namespace Go.Proofs.YtdbhleinhpiohaaGreatDoor
open Go.RowKit Go.Sp
set_option maxHeartbeats 1000000
set_option maxRecDepth 20000

/-- The elements among 1 .. i. -/
def found (P Q : Int) (i : Nat) : List Int := ((List.range i).map fun (j : Nat) => (j : Int) + 1).filter (elB P Q)

theorem found_succ (P Q : Int) (i : Nat) : found P Q (i + 1) = found P Q i ++ (if elB P Q (i + 1) = true then [(i : Int) + 1] else []) := by
  unfold found
  rw [List.range_succ, List.map_append, List.filter_append]
  congr 1
  simp [List.filter_cons]

theorem found_length (P Q : Int) (i : Nat) : (found P Q i).length ≤ i := by
  unfold found
  exact Nat.le_trans (List.length_filter_le _ _) (by simp)

theorem found_prefix (P Q : Int) {i j : Nat} (h : i ≤ j) : (found P Q i) <+: (found P Q j) := by
  obtain ⟨d, rfl⟩ : ∃ d, j = i + d := ⟨j - i, by omega⟩
  induction d with
  | zero => exact List.prefix_refl _
  | succ d ih =>
    refine List.IsPrefix.trans (ih (by omega)) ?_
    rw [show i + (d + 1) = i + d + 1 by omega, found_succ]
    exact List.prefix_append _ _

def RefElemOut (P Q : Int) (w : World) (e : Ending) (w' : World) : Prop :=
  ∃ v, e = .returned v ∧ OwnI w' w.heap.size v (found P Q (P - 1).toNat) ∧ Up w w'

end Go.Proofs.YtdbhleinhpiohaaGreatDoor
namespace Go.Proofs.YtdbhleinhpiohaaGreatDoor
open Go.Sp

theorem prim_of {n : Int} (h : isP n = true) (hn : n < 1048576) : Prim n.toNat := by
  have h2 := isP_two h
  refine ⟨by omega, fun q hq hqq => small_prime ?_ (by omega) hq hqq⟩
  rw [show ((n.toNat : Nat) : Int) = n by omega]; exact h

theorem mem_found {P Q x : Int} {n : Nat} : x ∈ found P Q n ↔ 1 ≤ x ∧ x ≤ n ∧ elB P Q x = true := by
  unfold found
  rw [List.mem_filter, List.mem_map]
  constructor
  · rintro ⟨⟨j, hj, rfl⟩, h⟩
    have := List.mem_range.1 hj
    exact ⟨by omega, by omega, h⟩
  · rintro ⟨h1, h2, h⟩
    exact ⟨⟨(x - 1).toNat, List.mem_range.2 (by omega), by omega⟩, h⟩

theorem found_lt (P Q : Int) (n : Nat) : (found P Q n).Pairwise (· < ·) := by
  unfold found
  refine List.Pairwise.filter _ (List.pairwise_map.2 ?_)
  exact List.Pairwise.imp (fun h => by omega) (List.pairwise_lt_range (n := n))

theorem perm_of_nodup : ∀ {xs ys : List Int}, xs.Nodup → ys.Nodup → (∀ x, x ∈ xs ↔ x ∈ ys) → xs.Perm ys
  | [], ys, _, _, h => by
    have : ys = [] := List.eq_nil_iff_forall_not_mem.2 fun x hx => by have := (h x).2 hx; cases this
    rw [this]
  | x :: xs, ys, hx, hy, h => by
    obtain ⟨hn, hx⟩ := List.nodup_cons.1 hx
    have hxy : x ∈ ys := (h x).1 (by simp)
    refine List.Perm.trans (List.Perm.cons x (perm_of_nodup hx (hy.erase x) fun y => ?_)) (List.perm_cons_erase hxy).symm
    rw [hy.mem_erase_iff]
    constructor
    · intro hm
      exact ⟨fun e => hn (e ▸ hm), (h y).1 (by simp [hm])⟩
    · rintro ⟨hne, hm⟩
      rcases List.mem_cons.1 ((h y).2 hm) with e | hm
      · exact absurd e hne
      · exact hm

theorem el_range {P Q x : Int} (h : elB P Q x = true) : 1 ≤ x ∧ x < P := ⟨(el_iff.1 h).1, (el_iff.1 h).2.1⟩

/-- The elements of a small group, in order. -/
theorem found_eq {P Q G : Int} (hg : gvB P Q G = true) (hP : P < 1048576) {a : Int} (ha : elB P Q a = true) (h1 : a ≠ 1) : isort (powList P a Q.toNat) = found P Q (P - 1).toNat := by
  have g := gv_iff.1 hg
  have g2 := g.P4
  have g3 := g.Q3
  have g4 := g.QP
  have hp := prim_of g.pP hP
  have hq := prim_of g.pQ (by omega)
  refine isort_eq (List.Pairwise.imp (fun h => by omega) (found_lt P Q _)) ?_
  show (pows P Q a).Perm _
  refine perm_of_nodup (pows_nodup (by omega) hq ha h1) (List.Pairwise.imp (fun h => by omega) (found_lt P Q _)) fun x => ?_
  rw [mem_found]
  constructor
  · intro hm
    have h := of_mem_pows (by omega) (by omega) ha hm
    have := el_range h
    exact ⟨by omega, by omega, h⟩
  · rintro ⟨_, _, h⟩
    exact mem_pows hp hq ha h1 h

theorem gen_el {P Q G : Int} (hg : gvB P Q G = true) : elB P Q G = true ∧ G ≠ 1 := by
  have g := gv_iff.1 hg
  have g5 := g.G2
  exact ⟨el_iff.2 ⟨by omega, g.GP, g.GQ⟩, by omega⟩

theorem found_count {P Q G : Int} (hg : gvB P Q G = true) (hP : P < 1048576) : (found P Q (P - 1).toNat).length = Q.toNat := by
  obtain ⟨h1, h2⟩ := gen_el hg
  rw [← found_eq hg hP h1 h2, isort_length, powList]
  simp
end Go.Proofs.YtdbhleinhpiohaaGreatDoor
