/- GroupProducts: the walk. Logarithms. -/
import Derived.Test.YtdlcmpbpdbpanaaGreatDoorMUnlinkExplains47
import Derived.Test.YtdlcmpbpdbpanaaGreatDoorMUnlinkExplains19
import Derived.Deep.RegionHeld3
import Derived.BigQuiet
import Derived.IntWalk
namespace Go.Proofs.YtdlcmpbpdbpanaaGreatDoor
open Go.RowKit Go.Sp
set_option maxHeartbeats 1000000
set_option maxRecDepth 8000

def isR (x e f want : Int) : Bool := if (f != 0) = true then e == f && x == 0 else e == 0 && x == want

theorem isR_bad {x f want : Int} (h : (f == 0) = false) (hx : x = 0) : isR x f f want = true := by
  have : f ≠ 0 := by simpa using h
  simp [isR, this, hx]
theorem isR_good {x f want : Int} (h : (f == 0) = true) (hx : x = want) : isR x f 0 want = true := by
  have : f = 0 := by simpa using h
  simp [isR, this, hx]

theorem chk_all {P Q G : Int} {xs : List Int} (h : (chkI P Q G xs == 0) = true) : gvB P Q G = true ∧ ∀ x ∈ xs, elB P Q x = true := chk_cases (by simpa using h)

theorem gMul_any (P Q G a b : Int) (w : World) (hP : -9223372036854775808 ≤ P) (hQ : Q ≤ 9223372036854775807) (hT : Tab w) :
    Calls Tryz.prog 107 #[grp P Q G, .int .i64 a, .int .i64 b] w fun e w' => e = .returned (.tuple #[.int .i64 (if chkI P Q G [a, b] = 0 then a * b % P else 0), .int .i64 (chkI P Q G [a, b])]) ∧ Up w w' := by
  by_cases h : chkI P Q G [a, b] = 0
  · obtain ⟨hg, hx⟩ := chk_cases h
    rw [if_pos h, h]
    exact gMul_ok P Q G a b w hQ hT hg (hx a (by simp)) (hx b (by simp))
  · rw [if_neg h]
    exact gMul_bad P Q G a b _ w hP hQ hT rfl (by simp [h])

theorem gPower_any (P Q G a k : Int) (w : World) (hP : -9223372036854775808 ≤ P) (hQ : Q ≤ 9223372036854775807) (hT : Tab w) (k0 : -9223372036854775808 ≤ k) (k1 : k ≤ 9223372036854775807) :
    Calls Tryz.prog 101 #[grp P Q G, .int .i64 a, .int .i64 k] w fun e w' => e = .returned (.tuple #[.int .i64 (if chkI P Q G [a] = 0 then gpw P Q a k else 0), .int .i64 (chkI P Q G [a])]) ∧ Up w w' := by
  by_cases h : chkI P Q G [a] = 0
  · obtain ⟨hg, hx⟩ := chk_cases h
    rw [if_pos h, h]
    exact gPower_ok P Q G a k w hQ hT hg (hx a (by simp)) k0 k1
  · rw [if_neg h]
    exact gPower_bad P Q G a k _ w hP hQ hT rfl (by simp [h])

theorem keepG {w0 w w' : World} {b : Nat} {P Q G : Int} (hU : Up w w')
    (h : w.cell? ⟨b, 0, none⟩ = some (.int .i64 P) ∧ w.cell? ⟨b, 1, none⟩ = some (.int .i64 Q) ∧ w.cell? ⟨b, 2, none⟩ = some (.int .i64 G) ∧ Hid (Up w0 w)) :
    w'.cell? ⟨b, 0, none⟩ = some (.int .i64 P) ∧ w'.cell? ⟨b, 1, none⟩ = some (.int .i64 Q) ∧ w'.cell? ⟨b, 2, none⟩ = some (.int .i64 G) ∧ Hid (Up w0 w') := by
  obtain ⟨a, b', c⟩ := GrpAt.up ⟨h.1, h.2.1, h.2.2.1⟩ hU
  exact ⟨a, b', c, hid (h.2.2.2.out.trans hU)⟩

theorem tabOf {w1 w : World} {p q r : Prop} (h : Hid (Tab w1)) (hs : p ∧ q ∧ r ∧ Hid (Up w1 w)) : Tab w := h.out.up hs.2.2.2.out

theorem upOf {w1 w : World} {p q r : Prop} (hs : p ∧ q ∧ r ∧ Hid (Up w1 w)) : Up w1 w := hs.2.2.2.out

end Go.Proofs.YtdlcmpbpdbpanaaGreatDoor
namespace Go.Proofs.YtdlcmpbpdbpanaaGreatDoor
open Go.RowKit Go.Sp Go.Maps
set_option maxHeartbeats 1000000
set_option maxRecDepth 20000

theorem keyedInt : Keyed Tryz.prog 3 := int_keyed Tryz.underlying3
theorem zeroInt (w : World) : (zeroValue 3).run Tryz.prog w = .ok (.int .i64 0) w := by kernel_rfl

theorem GrpAt.grown {w w' : World} {b B : Nat} {P Q G : Int} (h : GrpAt w b P Q G) (hg : w.grownBy w' (some B)) (hne : b < B) : GrpAt w' b P Q G := by
  obtain ⟨q0, q1, q2⟩ := h
  have hk := hg.block b (cell_lt q0) (fun e => by injection e; omega)
  exact ⟨by rw [World.cell?_of_block (w := w) hk]; exact q0, by rw [World.cell?_of_block (w := w) hk]; exact q1, by rw [World.cell?_of_block (w := w) hk]; exact q2⟩

theorem wf_i64 {x : Int} (h0 : -9223372036854775808 ≤ x) (h1 : x ≤ 9223372036854775807) : (Lit.int .i64 x).wf = true := by
  have a : IntKind.i64.min = -9223372036854775808 := by decide
  have b : IntKind.i64.max = 9223372036854775807 := by decide
  simp [Lit.wf, a, b, h0, h1]

theorem ownsMap_up {H : Type} {w w' : World} {P : Program} {k : TypeId} {R : Value → Option (DataW H × List MemPlace)} {b n : Nat} {D : DataW H} (h : w.ownsMap P k R b n D) (hU : Up w w') : w'.ownsMap P k R b n D := by
  obtain ⟨es, cl, hb, rest⟩ := h
  exact ⟨es, cl, by rw [hU.block (Array.getElem?_eq_some_iff.1 hb).1]; exact hb, rest⟩

theorem Log_ok (P Q G b x : Int) (n : Nat) (w : World) (hT : Tab w) (hg : gvB P Q G = true) (hQ : Q ≤ 1048576) (hb : elB P Q b = true) (hb1 : b ≠ 1) (hx : elB P Q x = true) (hn : n < Q.toNat) (hxn : x = pw b n P)
    (huniq : ∀ m : Nat, m < Q.toNat → pw b m P = x → m = n) :
    Calls Tryz.prog 90 #[grp P Q G, .int .i64 b, .int .i64 x] w fun e w' => e = .returned (.tuple #[.int .i64 n, .int .i64 0]) ∧ Up w w' := by
  have HT := hid hT
  have g := gv_iff.1 hg
  have g1 := g.P61
  have g2 := g.P4
  have g3 := g.Q3
  obtain ⟨b0, b1, _⟩ := el_iff.1 hb
  obtain ⟨x0, x1, _⟩ := el_iff.1 hx
  have HA := hid (chkI_ok (xs := [b, x]) hg (by simp [hb, hx]))
  have Hb := hid hb
  have Hx := hid hx
  have Hg := hid hg
  have Hxn := hid hxn
  have HU := hid huniq
  have d1 : (b == 1) = false := by simp [hb1]
  have d2 : decide (Q > 1048576) = false := by simp; omega
  have d3 : decide (1048576 < Q) = false := by simp; omega
  clear hT g hg hb hx hxn huniq hb1
  have hmm := @run_makeMap Tryz.prog
  go_enter Tryz.func90, Tryz.ntmps90
  go_wp2_with fail
  refine (gcheck_any P Q G _ [b, x] _ (by omega) (by omega) (HT.out.up (((Up.refl w).alloc _).alloc _)) (ints_two (by go_simp) (by go_simp))).mono ?_
  rintro e w1 ⟨rfl, hU1⟩
  rw [HA.out]
  have HU1 := hid ((((Up.refl w).alloc _).alloc _).trans hU1)
  have HG := hid ((box_reads rfl ((Up.refl _).alloc _)).up hU1)
  clear hU1
  obtain ⟨c0, c1, c2⟩ := HG.out
  go_wp2_with fail
  obtain ⟨o, ho⟩ : ∃ o, w.heap.size = o := ⟨_, rfl⟩
  obtain ⟨B, hB⟩ : ∃ B, w1.heap.size = B := ⟨_, rfl⟩
  have hoB : o < B := by have := cell_lt c0; omega
  have Ho := hid ho
  have HB := hid hB
  have HM0 := hid (World.ownsMap_made (H := Nat) w1 Tryz.prog 3 (plainElem Tryz.prog 3))
  have HUm := hid (HU1.out.alloc (.map #[] 0))
  have HGm := hid (HG.out.up ((Up.refl w1).alloc (.map #[] 0)))
  rw [hB] at HM0
  rw [ho] at HGm
  rw [ho, hB]
  clear c0 c1 c2 HG
  go_loopw [10, 35] (fun vy vi wr => ∃ i : Nat, i ≤ 1024 ∧ vy = .int .i64 (x * pw b i P % P) ∧ vi = .int .i64 i ∧ wr.ownsMap Tryz.prog 3 (plainElem Tryz.prog 3) B i (baby Nat P b x i) ∧ Up w wr ∧ GrpAt wr o P Q G) (fun _ vi _ => 1024 - (intOf vi).toNat)
  case atStart => exact ⟨0, by omega, by rw [pw_zero, Int.emod_eq_of_lt (show (0 : Int) ≤ 1 by omega) (by omega), Int.mul_one, Int.emod_eq_of_lt (by omega) x1], rfl, HM0.out, HUm.out, HGm.out⟩
  case round =>
    obtain ⟨i, hi, rfl, rfl, hown, hU, hG⟩ := hrel
    have HUr := hid hU
    have HGr := hid hG
    have Hown := hid hown
    obtain ⟨c0, c1, c2⟩ := hG
    have hBs : B < wr.heap.size := by
      obtain ⟨es, cl, hb, _⟩ := hown
      exact (Array.getElem?_eq_some_iff.1 hb).1
    have p0 := pw_nonneg b i (show 0 < P by omega)
    by_cases hl : i < 1024
    · have y0 := Int.emod_nonneg (x * pw b i P) (show P ≠ 0 by omega)
      have y1 := Int.emod_lt_of_pos (x * pw b i P) (show 0 < P by omega)
      have HN : Hid (x * pw b i P % P * b % P = x * pw b (i + 1) P % P) := hid (by
        rw [pw_add, pw_one_exp (by omega) b1, emul (emod_self (x * pw b i P) P) (rfl : b % P = b % P), Int.mul_assoc, ← emul (rfl : x % P = x % P) (emod_self (pw b i P * b) P)])
      have HS : Hid (baby Nat P b x (i + 1) = (baby Nat P b x i).put (.int .i64 (x * pw b i P % P)) (.lit (.int .i64 i))) := hid rfl
      have hkey : keyOf Tryz.prog 3 (.int .i64 (x * pw b i P % P)) = some (.int .i64 (x * pw b i P % P)) := keyOf_int_mk Tryz.underlying3 (wf_i64 (by omega) (by omega))
      have hval : plainElem (H := Nat) Tryz.prog 3 (.int .i64 (i : Int)) = some (.lit (.int .i64 (i : Int)), []) := plainElem_int Tryz.underlying3 (wf_i64 (by omega) (by omega))
      clear hU p0
      generalize baby Nat P b x i = D at *
      generalize x * pw b i P % P = y at *
      go_wp2_with (at_mapUpdate; refine wpList_mapUpdate_own _ rfl _ _ _ 185 rfl 3 3 keyedInt Tryz.underlying185 _ B i _ rfl hown (by unfold maxLen; omega) _ _ _ rfl rfl hkey _ [] hval ?_; intro w2 hown2 hgrow2; have HG2 := hid (HGr.out.grown hgrow2 hoB); obtain ⟨c0, c1, c2⟩ := HG2.out)
      have HU2 := hid (up_grown HUr.out hgrow2 (fun k hk => by injection hk; rw [Ho.out]; omega))
      refine (Mul_ok y b P _ y0 y1 (by omega) b1 g1).mono ?_
      rintro e w3 ⟨rfl, hU3⟩
      rw [HN.out]
      have HO3 := hid (ownsMap_up hown2 hU3)
      rw [← HS.out] at HO3
      have HU3 := hid (HU2.out.trans hU3)
      have HG3 := hid (HG2.out.up hU3)
      clear hU3 hown2 hgrow2 hown c0 c1 c2 HS
      go_wp2_with fail
      go_roundw
      case rel => exact ⟨i + 1, by omega, rfl, by go_num, HO3.out, HU3.out, HG3.out⟩
      case measure => simp [intOf]; omega
    · obtain rfl : i = 1024 := by omega
      rw [show ((1024 : Nat) : Int) = 1024 from rfl]
      clear hU hown
      have hQ0 : (Q == 0) = false := by simp; omega
      have r0 := Int.emod_nonneg 1024 (show Q ≠ 0 by omega)
      have r1 := Int.emod_lt_of_pos 1024 (show 0 < Q by omega)
      have HP : Hid (pw b (1024 % Q).toNat P = pw b 1024 P) := hid (by
        rw [← pw_mod (by omega) Hb.out 1024]
        congr 1
        obtain ⟨q, rfl⟩ : ∃ q : Nat, Q = q := ⟨Q.toNat, by omega⟩
        rw [Int.toNat_natCast]
        have : (1024 : Int) % (q : Int) = ((1024 % q : Nat) : Int) := by rw [Int.natCast_emod]; rfl
        omega)
      have hQn : ¬ (Q = 0) := by omega
      have hT1 : (1024 : Int).tmod Q = 1024 % Q := Int.tmod_eq_emod_of_nonneg (by omega)
      have hT2 : IntKind.i64.wrap (1024 % Q) = 1024 % Q := IntWalk.i64_in _ (by omega)
      go_wp2_with fail
      go_cut [12, 13] from 50 (fun va vb w' => va = .int .i64 (pw b 1024 P) ∧ vb = .int .i64 0 ∧ Up wr w')
      case first =>
        have hS0 := And.intro c0 (And.intro c1 (And.intro c2 (hid (Up.refl wr))))
        clear c0 c1 c2
        go_region_held3 (fun w' => w'.cell? ⟨o, 0, none⟩ = some (.int .i64 P) ∧ w'.cell? ⟨o, 1, none⟩ = some (.int .i64 Q) ∧ w'.cell? ⟨o, 2, none⟩ = some (.int .i64 G) ∧ Hid (Up wr w')) (first | exact keepG ((Up.refl _).drew) (by assumption) | exact keepG ((Up.refl _).alloc _) (by assumption) | exact keepG (by assumption) (by assumption)) (first
          | (go_at_call 139; refine (Pow_ok b (1024 % Q) P _ (by omega) b1 r0 (by omega) g1).mono ?_; rintro e w9 ⟨rfl, hU9⟩; rw [HP.out]))
        all_goals (go_wp2_with fail; go_meet)
        all_goals exact ⟨rfl, rfl, upOf (by assumption)⟩
      case rest =>
        obtain ⟨rfl, rfl, hU9⟩ := hcut
        have HG9 := hid (HGr.out.up hU9)
        have HU9 := hid (HUr.out.trans hU9)
        have HO9 := hid (ownsMap_up Hown.out hU9)
        clear hU9 HP r0 r1
        obtain ⟨c0, c1, c2⟩ := HG9.out
        go_wp2_with fail
        obtain ⟨K, hK⟩ : ∃ K : Nat, (n + 1023) / 1024 = K := ⟨_, rfl⟩
        have HK := hid hK
        have hKb : (K : Int) < Q / 1024 + 2 := by omega
        have Hhit : Hid (pw b (1024 * K) P = x * pw b (1024 * K - n) P % P ∧ 1024 * K - n < 1024) := hid (by
          refine ⟨?_, by omega⟩
          rw [Hxn.out, ← pw_add, show n + (1024 * K - n) = 1024 * K by omega])
        clear hK c0 c1 c2
        go_loopw [14, 64] (fun vz vk wr2 => ∃ k : Nat, k ≤ K ∧ vz = .int .i64 (pw b (1024 * k) P) ∧ vk = .int .i64 k ∧ wr2.ownsMap Tryz.prog 3 (plainElem Tryz.prog 3) B 1024 (baby Nat P b x 1024) ∧ Up w wr2 ∧ GrpAt wr2 o P Q G) (fun _ vk _ => K + 1 - (intOf vk).toNat)
        case atStart => exact ⟨0, by omega, by rw [Nat.mul_zero, pw_zero, Int.emod_eq_of_lt (by omega) (by omega)], rfl, HO9.out, HU9.out, HG9.out⟩
        case round =>
          obtain ⟨k, hk, rfl, rfl, hown, hU, hG⟩ := hrel
          have HUr := hid hU
          have HGr := hid hG
          obtain ⟨c0, c1, c2⟩ := hG
          have z0 := pw_nonneg b (1024 * k) (show 0 < P by omega)
          have z1 := pw_lt b (1024 * k) (show 0 < P by omega)
          have hlt : (k : Int) < Q / 1024 + 2 := by omega
          have HNx : Hid (pw b (1024 * k) P * pw b 1024 P % P = pw b (1024 * (k + 1)) P) := hid (by rw [← pw_add, show 1024 * k + 1024 = 1024 * (k + 1) by omega])
          have Hmeet : Hid (Maps.has (baby Nat P b x 1024) (.int .i64 (pw b (1024 * k) P)) = true → ∃ j : Nat, j < 1024 ∧ ((k : Int) * 1024 - j) % Q = n ∧ ∀ z0, (baby Nat P b x 1024).atKey (.int .i64 (pw b (1024 * k) P)) z0 = .lit (.int .i64 j)) := hid (by
            intro h
            obtain ⟨j, hj, hz, ha⟩ := baby_has 1024 _ h
            have hm := meets (by omega) (by omega) Hb.out Hx.out (k := k) (j := j) hz
            have r0 := Int.emod_nonneg ((k : Int) * 1024 - j) (show Q ≠ 0 by omega)
            have r1 := Int.emod_lt_of_pos ((k : Int) * 1024 - j) (show 0 < Q by omega)
            have := HU.out _ (by omega) hm
            exact ⟨j, hj, by omega, ha⟩)
          have Hmiss : Hid (Maps.has (baby Nat P b x 1024) (.int .i64 (pw b (1024 * k) P)) = false → k < K) := hid (by
            intro h
            refine Nat.lt_of_le_of_ne hk fun e => ?_
            subst e
            have := baby_there (H := Nat) (P := P) (b := b) (x := x) 1024 (1024 * k - n) Hhit.out.2
            rw [← Hhit.out.1, h] at this
            cases this)
          have hkey : keyOf Tryz.prog 3 (.int .i64 (pw b (1024 * k) P)) = some (.int .i64 (pw b (1024 * k) P)) := keyOf_int_mk Tryz.underlying3 (wf_i64 (by omega) (by omega))
          have Hown := hid hown
          clear hU
          generalize pw b (1024 * k) P = z at *
          generalize baby Nat P b x 1024 = D at *
          have hK1 : K ≤ 1030 := by omega
          by_cases hh : Maps.has D (.int .i64 z) = true
          · obtain ⟨j, hj, hm, ha⟩ := Hmeet.out hh
            have hm' := hid hm
            have ha' := hid (ha (.lit (.int .i64 0)))
            have HRd := hid (Reduce_ok ((k : Int) * 1024 - j) Q · (by omega) (by omega) (by omega) (by omega))
            clear hm ha
            go_wp2_with (at_lookup; refine wpList_lookup_own_ok_int _ rfl _ _ 185 rfl 3 3 .i64 keyedInt Tryz.underlying185 Tryz.underlying3 (zeroInt _) B 1024 _ rfl hown _ _ rfl hkey ?_; intro c hat hwc; obtain rfl : c = j := (by have := hat.symm.trans ha'.out; injection this with h1; injection h1); clear hat hwc; rw [hh])
            refine (HRd.out _).mono ?_
            rintro e w4 ⟨rfl, rfl⟩
            rw [hm'.out]
            go_wp2
            go_ret2
            exact ⟨rfl, HUr.out⟩
          · have hh' : Maps.has D (.int .i64 z) = false := by simpa using hh
            have hkK := Hmiss.out hh'
            have q0 := pw_nonneg b 1024 (show 0 < P by omega)
            have q1 := pw_lt b 1024 (show 0 < P by omega)
            clear hh
            go_wp2_with (at_lookup; refine wpList_lookup_own_ok_int _ rfl _ _ 185 rfl 3 3 .i64 keyedInt Tryz.underlying185 Tryz.underlying3 (zeroInt _) B 1024 _ rfl hown _ _ rfl hkey ?_; intro c hat hwc; clear hat hwc; rw [hh'])
            refine (Mul_ok z (pw b 1024 P) P _ z0 z1 q0 q1 g1).mono ?_
            rintro e w4 ⟨rfl, hU4⟩
            rw [HNx.out]
            have HU4 := hid (HUr.out.trans hU4)
            have HG4 := hid (HGr.out.up hU4)
            have HO4 := hid (ownsMap_up Hown.out hU4)
            clear hU4
            go_wp2_with fail
            go_roundw
            case rel => exact ⟨k + 1, by omega, rfl, by go_num, HO4.out, HU4.out, HG4.out⟩
            case measure => simp [intOf]; omega
end Go.Proofs.YtdlcmpbpdbpanaaGreatDoor
