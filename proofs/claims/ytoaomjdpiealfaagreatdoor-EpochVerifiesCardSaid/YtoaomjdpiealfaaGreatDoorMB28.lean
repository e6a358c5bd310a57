/- Baby steps and giant steps: the plain side. The statements of layer 10 on products and powers: walks. GroupProducts: the walk. Logarithms. Primes; at most Q roots; all elements are powers. -/
import Derived.Test.YtoaomjdpiealfaaGreatDoorMB11
import Derived.Test.YtoaomjdpiealfaaGreatDoorMB13
import Derived.Test.YtoaomjdpiealfaaGreatDoorMB4
import Derived.Maps.Own
import Derived.Maps.OwnOps
import Derived.Maps.OwnSet
import Derived.Maps.Views
import Derived.Deep.RegionHeld3
import Derived.BigQuiet
import Derived.IntWalk
namespace Go.Proofs.YtoaomjdpiealfaaGreatDoor
open Go.Sp Go.Maps

/-- The map after n baby steps. -/
def baby (H : Type) (P b x : Int) : Nat → DataW H
  | 0 => .map []
  | n + 1 => (baby H P b x n).put (.int .i64 (x * pw b n P % P)) (.lit (.int .i64 n))

theorem baby_isMap (H : Type) (P b x : Int) : ∀ n, IsMap (baby H P b x n)
  | 0 => isMap_empty
  | n + 1 => (baby_isMap H P b x n).put _ _

theorem baby_has {H : Type} {P b x : Int} : ∀ (n : Nat) (z : Int), Maps.has (baby H P b x n) (.int .i64 z) = true → ∃ j, j < n ∧ z = x * pw b j P % P ∧ ∀ z0, (baby H P b x n).atKey (.int .i64 z) z0 = .lit (.int .i64 j)
  | 0, z, h => by simp [baby, Maps.has] at h
  | n + 1, z, h => by
    by_cases he : z = x * pw b n P % P
    · refine ⟨n, by omega, he, fun z0 => ?_⟩
      rw [he]
      exact atKey_put_same (k := .int .i64 (x * pw b n P % P)) (baby_isMap H P b x n) (show WideAt.IsKeyLit (.int .i64 (x * pw b n P % P)) from True.intro) _ _
    · have hne : Lit.int .i64 z ≠ Lit.int .i64 (x * pw b n P % P) := fun e => he (by injection e)
      rw [baby, has_put_other hne] at h
      obtain ⟨j, hj, hz, ha⟩ := baby_has n z h
      exact ⟨j, by omega, hz, fun z0 => by rw [baby, atKey_put_other hne]; exact ha z0⟩

theorem baby_there {H : Type} {P b x : Int} : ∀ (n j : Nat), j < n → Maps.has (baby H P b x n) (.int .i64 (x * pw b j P % P)) = true
  | n + 1, j, hj => by
    by_cases he : x * pw b j P % P = x * pw b n P % P
    · rw [he]
      exact has_put_same (k := .int .i64 (x * pw b n P % P)) (baby_isMap H P b x n) (show WideAt.IsKeyLit (.int .i64 (x * pw b n P % P)) from True.intro) _
    · have hne : Lit.int .i64 (x * pw b j P % P) ≠ Lit.int .i64 (x * pw b n P % P) := fun e => he (by injection e)
      rw [baby, has_put_other hne]
      refine baby_there n j ?_
      refine Nat.lt_of_le_of_ne (by omega) fun e => he (by rw [e])

/-- Where a giant step meets a baby step, the logarithm is their difference. -/
theorem meets {P Q b x : Int} (hP : 2 ≤ P) (hQ : 1 ≤ Q) (hb : elB P Q b = true) (hx : elB P Q x = true) {k j : Nat} (h : pw b (1024 * k) P = x * pw b j P % P) :
    pw b (((k : Int) * 1024 - j) % Q).toNat P = x := by
  have hbQ := (el_iff.1 hb).2.2
  obtain ⟨x0, x1, _⟩ := el_iff.1 hx
  -- b^(1024 k) * b^(Q-j mod ..) = x
  obtain ⟨t, ht⟩ : ∃ t : Nat, Q * (j : Int) - j = t := ⟨(Q * (j : Int) - j).toNat, by
    have : 1 * (j : Int) ≤ Q * j := Int.mul_le_mul_of_nonneg_right hQ (by omega)
    omega⟩
  have e1 : pw b (1024 * k + t) P = x := by
    rw [pw_add, h, emul (emod_self (x * pw b j P) P) (rfl : pw b t P % P = pw b t P % P), Int.mul_assoc, ← emul (rfl : x % P = x % P) (emod_self (pw b j P * pw b t P) P), ← pw_add]
    have : j + t = Q.toNat * j := by
      obtain ⟨q, rfl⟩ : ∃ q : Nat, Q = q := ⟨Q.toNat, by omega⟩
      rw [Int.toNat_natCast]
      have : ((j + t : Nat) : Int) = ((q * j : Nat) : Int) := by rw [Int.natCast_add, Int.natCast_mul]; omega
      exact_mod_cast this
    rw [this, pw_mul, hbQ, pw_one_base, Int.emod_eq_of_lt (show (0 : Int) ≤ 1 by omega) (by omega), Int.mul_one]
    exact Int.emod_eq_of_lt (by omega) x1
  rw [← e1, ← pw_mod hP hb (1024 * k + t)]
  congr 1
  obtain ⟨u, h1, e2⟩ := toNat_mod (x := (k : Int) * 1024 - j) hQ
  rw [h1]
  refine nat_of_int (Q := Q) (by omega) ?_
  rw [e2, show ((1024 * k + t : Nat) : Int) = ((k : Int) * 1024 - j) + Q * j by rw [Int.natCast_add, ← ht, Int.natCast_mul]; omega, Int.add_mul_emod_self_left]
end Go.Proofs.YtoaomjdpiealfaaGreatDoor
namespace Go.Proofs.YtoaomjdpiealfaaGreatDoor
open Go.RowKit Go.Sp
set_option maxHeartbeats 1000000

end Go.Proofs.YtoaomjdpiealfaaGreatDoor
namespace Go.Proofs.YtoaomjdpiealfaaGreatDoor
open Go.RowKit Go.Sp
set_option maxHeartbeats 1000000
set_option maxRecDepth 8000

def isR (x e f want : Int) : Bool := if (f != 0) = true then e == f && x == 0 else e == 0 && x == want

theorem isR_bad {x f want : Int} (h : (f == 0) = false) (hx : x = 0) : isR x f f want = true := by
  have : f ≠ 0 := by simpa using h
  simp [isR, this, hx]
theorem isR_good {x f want : Int} (h : (f == 0) = true) (hx : x = want) : isR x f 0 want = true := by
  have : f = 0 := by simpa using h
  simp [isR, this, hx]

theorem chk_all {P Q G : Int} {xs : List Int} (h : (chkI P Q G xs == 0) = true) : gvB P Q G = true ∧ ∀ x ∈ xs, elB P Q x = true := chk_cases (by simpa using h)

theorem gMul_any (P Q G a b : Int) (w : World) (hP : -9223372036854775808 ≤ P) (hQ : Q ≤ 9223372036854775807) (hT : Tab w) :
    Calls Tryz.prog 157 #[grp P Q G, .int .i64 a, .int .i64 b] w fun e w' => e = .returned (.tuple #[.int .i64 (if chkI P Q G [a, b] = 0 then a * b % P else 0), .int .i64 (chkI P Q G [a, b])]) ∧ Up w w' := by
  by_cases h : chkI P Q G [a, b] = 0
  · obtain ⟨hg, hx⟩ := chk_cases h
    rw [if_pos h, h]
    exact gMul_ok P Q G a b w hQ hT hg (hx a (by simp)) (hx b (by simp))
  · rw [if_neg h]
    exact gMul_bad P Q G a b _ w hP hQ hT rfl (by simp [h])

theorem gPower_any (P Q G a k : Int) (w : World) (hP : -9223372036854775808 ≤ P) (hQ : Q ≤ 9223372036854775807) (hT : Tab w) (k0 : -9223372036854775808 ≤ k) (k1 : k ≤ 9223372036854775807) :
    Calls Tryz.prog 30 #[grp P Q G, .int .i64 a, .int .i64 k] w fun e w' => e = .returned (.tuple #[.int .i64 (if chkI P Q G [a] = 0 then gpw P Q a k else 0), .int .i64 (chkI P Q G [a])]) ∧ Up w w' := by
  by_cases h : chkI P Q G [a] = 0
  · obtain ⟨hg, hx⟩ := chk_cases h
    rw [if_pos h, h]
    exact gPower_ok P Q G a k w hQ hT hg (hx a (by simp)) k0 k1
  · rw [if_neg h]
    exact gPower_bad P Q G a k _ w hP hQ hT rfl (by simp [h])

theorem keepG {w0 w w' : World} {b : Nat} {P Q G : Int} (hU : Up w w')
    (h : w.cell? ⟨b, 0, none⟩ = some (.int .i64 P) ∧ w.cell? ⟨b, 1, none⟩ = some (.int .i64 Q) ∧ w.cell? ⟨b, 2, none⟩ = some (.int .i64 G) ∧ Hid (Up w0 w)) :
    w'.cell? ⟨b, 0, none⟩ = some (.int .i64 P) ∧ w'.cell? ⟨b, 1, none⟩ = some (.int .i64 Q) ∧ w'.cell? ⟨b, 2, none⟩ = some (.int .i64 G) ∧ Hid (Up w0 w') := by
  obtain ⟨a, b', c⟩ := GrpAt.up ⟨h.1, h.2.1, h.2.2.1⟩ hU
  exact ⟨a, b', c, hid (h.2.2.2.out.trans hU)⟩

theorem tabOf {w1 w : World} {p q r : Prop} (h : Hid (Tab w1)) (hs : p ∧ q ∧ r ∧ Hid (Up w1 w)) : Tab w := h.out.up hs.2.2.2.out

theorem upOf {w1 w : World} {p q r : Prop} (hs : p ∧ q ∧ r ∧ Hid (Up w1 w)) : Up w1 w := hs.2.2.2.out

end Go.Proofs.YtoaomjdpiealfaaGreatDoor
namespace Go.Proofs.YtoaomjdpiealfaaGreatDoor
open Go.RowKit Go.Sp Go.Maps
set_option maxHeartbeats 1000000
set_option maxRecDepth 20000

theorem keyedInt : Keyed Tryz.prog 3 := int_keyed Tryz.underlying3
theorem zeroInt (w : World) : (zeroValue 3).run Tryz.prog w = .ok (.int .i64 0) w := by kernel_rfl

theorem GrpAt.grown {w w' : World} {b B : Nat} {P Q G : Int} (h : GrpAt w b P Q G) (hg : w.grownBy w' (some B)) (hne : b < B) : GrpAt w' b P Q G := by
  obtain ⟨q0, q1, q2⟩ := h
  have hk := hg.block b (cell_lt q0) (fun e => by injection e; omega)
  exact ⟨by rw [World.cell?_of_block (w := w) hk]; exact q0, by rw [World.cell?_of_block (w := w) hk]; exact q1, by rw [World.cell?_of_block (w := w) hk]; exact q2⟩

theorem wf_i64 {x : Int} (h0 : -9223372036854775808 ≤ x) (h1 : x ≤ 9223372036854775807) : (Lit.int .i64 x).wf = true := by
  have a : IntKind.i64.min = -9223372036854775808 := by decide
  have b : IntKind.i64.max = 9223372036854775807 := by decide
  simp [Lit.wf, a, b, h0, h1]

theorem ownsMap_up {H : Type} {w w' : World} {P : Program} {k : TypeId} {R : Value → Option (DataW H × List MemPlace)} {b n : Nat} {D : DataW H} (h : w.ownsMap P k R b n D) (hU : Up w w') : w'.ownsMap P k R b n D := by
  obtain ⟨es, cl, hb, rest⟩ := h
  exact ⟨es, cl, by rw [hU.block (Array.getElem?_eq_some_iff.1 hb).1]; exact hb, rest⟩

theorem Log_ok (P Q G b x : Int) (n : Nat) (w : World) (hT : Tab w) (hg : gvB P Q G = true) (hQ : Q ≤ 1048576) (hb : elB P Q b = true) (hb1 : b ≠ 1) (hx : elB P Q x = true) (hn : n < Q.toNat) (hxn : x = pw b n P)
    (huniq : ∀ m : Nat, m < Q.toNat → pw b m P = x → m = n) :
    Calls Tryz.prog 45 #[grp P Q G, .int .i64 b, .int .i64 x] w fun e w' => e = .returned (.tuple #[.int .i64 n, .int .i64 0]) ∧ Up w w' := by
  have HT := hid hT
  have g := gv_iff.1 hg
  have g1 := g.P61
  have g2 := g.P4
  have g3 := g.Q3
  obtain ⟨b0, b1, _⟩ := el_iff.1 hb
  obtain ⟨x0, x1, _⟩ := el_iff.1 hx
  have HA := hid (chkI_ok (xs := [b, x]) hg (by simp [hb, hx]))
  have Hb := hid hb
  have Hx := hid hx
  have Hg := hid hg
  have Hxn := hid hxn
  have HU := hid huniq
  have d1 : (b == 1) = false := by simp [hb1]
  have d2 : decide (Q > 1048576) = false := by simp; omega
  have d3 : decide (1048576 < Q) = false := by simp; omega
  clear hT g hg hb hx hxn huniq hb1
  have hmm := @run_makeMap Tryz.prog
  go_enter Tryz.func45, Tryz.ntmps45
  go_wp2_with fail
  refine (gcheck_any P Q G _ [b, x] _ (by omega) (by omega) (HT.out.up (((Up.refl w).alloc _).alloc _)) (ints_two (by go_simp) (by go_simp))).mono ?_
  rintro e w1 ⟨rfl, hU1⟩
  rw [HA.out]
  have HU1 := hid ((((Up.refl w).alloc _).alloc _).trans hU1)
  have HG := hid ((box_reads rfl ((Up.refl _).alloc _)).up hU1)
  clear hU1
  obtain ⟨c0, c1, c2⟩ := HG.out
  go_wp2_with fail
  obtain ⟨o, ho⟩ : ∃ o, w.heap.size = o := ⟨_, rfl⟩
  obtain ⟨B, hB⟩ : ∃ B, w1.heap.size = B := ⟨_, rfl⟩
  have hoB : o < B := by have := cell_lt c0; omega
  have Ho := hid ho
  have HB := hid hB
  have HM0 := hid (World.ownsMap_made (H := Nat) w1 Tryz.prog 3 (plainElem Tryz.prog 3))
  have HUm := hid (HU1.out.alloc (.map #[] 0))
  have HGm := hid (HG.out.up ((Up.refl w1).alloc (.map #[] 0)))
  rw [hB] at HM0
  rw [ho] at HGm
  rw [ho, hB]
  clear c0 c1 c2 HG
  go_loopw [10, 35] (fun vy vi wr => ∃ i : Nat, i ≤ 1024 ∧ vy = .int .i64 (x * pw b i P % P) ∧ vi = .int .i64 i ∧ wr.ownsMap Tryz.prog 3 (plainElem Tryz.prog 3) B i (baby Nat P b x i) ∧ Up w wr ∧ GrpAt wr o P Q G) (fun _ vi _ => 1024 - (intOf vi).toNat)
  case atStart => exact ⟨0, by omega, by rw [pw_zero, Int.emod_eq_of_lt (show (0 : Int) ≤ 1 by omega) (by omega), Int.mul_one, Int.emod_eq_of_lt (by omega) x1], rfl, HM0.out, HUm.out, HGm.out⟩
  case round =>
    obtain ⟨i, hi, rfl, rfl, hown, hU, hG⟩ := hrel
    have HUr := hid hU
    have HGr := hid hG
    have Hown := hid hown
    obtain ⟨c0, c1, c2⟩ := hG
    have hBs : B < wr.heap.size := by
      obtain ⟨es, cl, hb, _⟩ := hown
      exact (Array.getElem?_eq_some_iff.1 hb).1
    have p0 := pw_nonneg b i (show 0 < P by omega)
    by_cases hl : i < 1024
    · have y0 := Int.emod_nonneg (x * pw b i P) (show P ≠ 0 by omega)
      have y1 := Int.emod_lt_of_pos (x * pw b i P) (show 0 < P by omega)
      have HN : Hid (x * pw b i P % P * b % P = x * pw b (i + 1) P % P) := hid (by
        rw [pw_add, pw_one_exp (by omega) b1, emul (emod_self (x * pw b i P) P) (rfl : b % P = b % P), Int.mul_assoc, ← emul (rfl : x % P = x % P) (emod_self (pw b i P * b) P)])
      have HS : Hid (baby Nat P b x (i + 1) = (baby Nat P b x i).put (.int .i64 (x * pw b i P % P)) (.lit (.int .i64 i))) := hid rfl
      have hkey : keyOf Tryz.prog 3 (.int .i64 (x * pw b i P % P)) = some (.int .i64 (x * pw b i P % P)) := keyOf_int_mk Tryz.underlying3 (wf_i64 (by omega) (by omega))
      have hval : plainElem (H := Nat) Tryz.prog 3 (.int .i64 (i : Int)) = some (.lit (.int .i64 (i : Int)), []) := plainElem_int Tryz.underlying3 (wf_i64 (by omega) (by omega))
      clear hU p0
      generalize baby Nat P b x i = D at *
      generalize x * pw b i P % P = y at *
      go_wp2_with (at_mapUpdate; refine wpList_mapUpdate_own _ rfl _ _ _ 149 rfl 3 3 keyedInt Tryz.underlying149 _ B i _ rfl hown (by unfold maxLen; omega) _ _ _ rfl rfl hkey _ [] hval ?_; intro w2 hown2 hgrow2; have HG2 := hid (HGr.out.grown hgrow2 hoB); obtain ⟨c0, c1, c2⟩ := HG2.out)
      have HU2 := hid (up_grown HUr.out hgrow2 (fun k hk => by injection hk; rw [Ho.out]; omega))
      refine (Mul_ok y b P _ y0 y1 (by omega) b1 g1).mono ?_
      rintro e w3 ⟨rfl, hU3⟩
      rw [HN.out]
      have HO3 := hid (ownsMap_up hown2 hU3)
      rw [← HS.out] at HO3
      have HU3 := hid (HU2.out.trans hU3)
      have HG3 := hid (HG2.out.up hU3)
      clear hU3 hown2 hgrow2 hown c0 c1 c2 HS
      go_wp2_with fail
      go_roundw
      case rel => exact ⟨i + 1, by omega, rfl, by go_num, HO3.out, HU3.out, HG3.out⟩
      case measure => simp [intOf]; omega
    · obtain rfl : i = 1024 := by omega
      rw [show ((1024 : Nat) : Int) = 1024 from rfl]
      clear hU hown
      have hQ0 : (Q == 0) = false := by simp; omega
      have r0 := Int.emod_nonneg 1024 (show Q ≠ 0 by omega)
      have r1 := Int.emod_lt_of_pos 1024 (show 0 < Q by omega)
      have HP : Hid (pw b (1024 % Q).toNat P = pw b 1024 P) := hid (by
        rw [← pw_mod (by omega) Hb.out 1024]
        congr 1
        obtain ⟨q, rfl⟩ : ∃ q : Nat, Q = q := ⟨Q.toNat, by omega⟩
        rw [Int.toNat_natCast]
        have : (1024 : Int) % (q : Int) = ((1024 % q : Nat) : Int) := by rw [Int.natCast_emod]; rfl
        omega)
      have hQn : ¬ (Q = 0) := by omega
      have hT1 : (1024 : Int).tmod Q = 1024 % Q := Int.tmod_eq_emod_of_nonneg (by omega)
      have hT2 : IntKind.i64.wrap (1024 % Q) = 1024 % Q := IntWalk.i64_in _ (by omega)
      go_wp2_with fail
      go_cut [12, 13] from 50 (fun va vb w' => va = .int .i64 (pw b 1024 P) ∧ vb = .int .i64 0 ∧ Up wr w')
      case first =>
        have hS0 := And.intro c0 (And.intro c1 (And.intro c2 (hid (Up.refl wr))))
        clear c0 c1 c2
        go_region_held3 (fun w' => w'.cell? ⟨o, 0, none⟩ = some (.int .i64 P) ∧ w'.cell? ⟨o, 1, none⟩ = some (.int .i64 Q) ∧ w'.cell? ⟨o, 2, none⟩ = some (.int .i64 G) ∧ Hid (Up wr w')) (first | exact keepG ((Up.refl _).drew) (by assumption) | exact keepG ((Up.refl _).alloc _) (by assumption) | exact keepG (by assumption) (by assumption)) (first
          | (go_at_call 80; refine (Pow_ok b (1024 % Q) P _ (by omega) b1 r0 (by omega) g1).mono ?_; rintro e w9 ⟨rfl, hU9⟩; rw [HP.out]))
        all_goals (go_wp2_with fail; go_meet)
        all_goals exact ⟨rfl, rfl, upOf (by assumption)⟩
      case rest =>
        obtain ⟨rfl, rfl, hU9⟩ := hcut
        have HG9 := hid (HGr.out.up hU9)
        have HU9 := hid (HUr.out.trans hU9)
        have HO9 := hid (ownsMap_up Hown.out hU9)
        clear hU9 HP r0 r1
        obtain ⟨c0, c1, c2⟩ := HG9.out
        go_wp2_with fail
        obtain ⟨K, hK⟩ : ∃ K : Nat, (n + 1023) / 1024 = K := ⟨_, rfl⟩
        have HK := hid hK
        have hKb : (K : Int) < Q / 1024 + 2 := by omega
        have Hhit : Hid (pw b (1024 * K) P = x * pw b (1024 * K - n) P % P ∧ 1024 * K - n < 1024) := hid (by
          refine ⟨?_, by omega⟩
          rw [Hxn.out, ← pw_add, show n + (1024 * K - n) = 1024 * K by omega])
        clear hK c0 c1 c2
        go_loopw [14, 64] (fun vz vk wr2 => ∃ k : Nat, k ≤ K ∧ vz = .int .i64 (pw b (1024 * k) P) ∧ vk = .int .i64 k ∧ wr2.ownsMap Tryz.prog 3 (plainElem Tryz.prog 3) B 1024 (baby Nat P b x 1024) ∧ Up w wr2 ∧ GrpAt wr2 o P Q G) (fun _ vk _ => K + 1 - (intOf vk).toNat)
        case atStart => exact ⟨0, by omega, by rw [Nat.mul_zero, pw_zero, Int.emod_eq_of_lt (by omega) (by omega)], rfl, HO9.out, HU9.out, HG9.out⟩
        case round =>
          obtain ⟨k, hk, rfl, rfl, hown, hU, hG⟩ := hrel
          have HUr := hid hU
          have HGr := hid hG
          obtain ⟨c0, c1, c2⟩ := hG
          have z0 := pw_nonneg b (1024 * k) (show 0 < P by omega)
          have z1 := pw_lt b (1024 * k) (show 0 < P by omega)
          have hlt : (k : Int) < Q / 1024 + 2 := by omega
          have HNx : Hid (pw b (1024 * k) P * pw b 1024 P % P = pw b (1024 * (k + 1)) P) := hid (by rw [← pw_add, show 1024 * k + 1024 = 1024 * (k + 1) by omega])
          have Hmeet : Hid (Maps.has (baby Nat P b x 1024) (.int .i64 (pw b (1024 * k) P)) = true → ∃ j : Nat, j < 1024 ∧ ((k : Int) * 1024 - j) % Q = n ∧ ∀ z0, (baby Nat P b x 1024).atKey (.int .i64 (pw b (1024 * k) P)) z0 = .lit (.int .i64 j)) := hid (by
            intro h
            obtain ⟨j, hj, hz, ha⟩ := baby_has 1024 _ h
            have hm := meets (by omega) (by omega) Hb.out Hx.out (k := k) (j := j) hz
            have r0 := Int.emod_nonneg ((k : Int) * 1024 - j) (show Q ≠ 0 by omega)
            have r1 := Int.emod_lt_of_pos ((k : Int) * 1024 - j) (show 0 < Q by omega)
            have := HU.out _ (by omega) hm
            exact ⟨j, hj, by omega, ha⟩)
          have Hmiss : Hid (Maps.has (baby Nat P b x 1024) (.int .i64 (pw b (1024 * k) P)) = false → k < K) := hid (by
            intro h
            refine Nat.lt_of_le_of_ne hk fun e => ?_
            subst e
            have := baby_there (H := Nat) (P := P) (b := b) (x := x) 1024 (1024 * k - n) Hhit.out.2
            rw [← Hhit.out.1, h] at this
            cases this)
          have hkey : keyOf Tryz.prog 3 (.int .i64 (pw b (1024 * k) P)) = some (.int .i64 (pw b (1024 * k) P)) := keyOf_int_mk Tryz.underlying3 (wf_i64 (by omega) (by omega))
          have Hown := hid hown
          clear hU
          generalize pw b (1024 * k) P = z at *
          generalize baby Nat P b x 1024 = D at *
          have hK1 : K ≤ 1030 := by omega
          by_cases hh : Maps.has D (.int .i64 z) = true
          · obtain ⟨j, hj, hm, ha⟩ := Hmeet.out hh
            have hm' := hid hm
            have ha' := hid (ha (.lit (.int .i64 0)))
            have HRd := hid (Reduce_ok ((k : Int) * 1024 - j) Q · (by omega) (by omega) (by omega) (by omega))
            clear hm ha
            go_wp2_with (at_lookup; refine wpList_lookup_own_ok_int _ rfl _ _ 149 rfl 3 3 .i64 keyedInt Tryz.underlying149 Tryz.underlying3 (zeroInt _) B 1024 _ rfl hown _ _ rfl hkey ?_; intro c hat hwc; obtain rfl : c = j := (by have := hat.symm.trans ha'.out; injection this with h1; injection h1); clear hat hwc; rw [hh])
            refine (HRd.out _).mono ?_
            rintro e w4 ⟨rfl, rfl⟩
            rw [hm'.out]
            go_wp2
            go_ret2
            exact ⟨rfl, HUr.out⟩
          · have hh' : Maps.has D (.int .i64 z) = false := by simpa using hh
            have hkK := Hmiss.out hh'
            have q0 := pw_nonneg b 1024 (show 0 < P by omega)
            have q1 := pw_lt b 1024 (show 0 < P by omega)
            clear hh
            go_wp2_with (at_lookup; refine wpList_lookup_own_ok_int _ rfl _ _ 149 rfl 3 3 .i64 keyedInt Tryz.underlying149 Tryz.underlying3 (zeroInt _) B 1024 _ rfl hown _ _ rfl hkey ?_; intro c hat hwc; clear hat hwc; rw [hh'])
            refine (Mul_ok z (pw b 1024 P) P _ z0 z1 q0 q1 g1).mono ?_
            rintro e w4 ⟨rfl, hU4⟩
            rw [HNx.out]
            have HU4 := hid (HUr.out.trans hU4)
            have HG4 := hid (HGr.out.up hU4)
            have HO4 := hid (ownsMap_up Hown.out hU4)
            clear hU4
            go_wp2_with fail
            go_roundw
            case rel => exact ⟨k + 1, by omega, rfl, by go_num, HO4.out, HU4.out, HG4.out⟩
            case measure => simp [intOf]; omega
end Go.Proofs.YtoaomjdpiealfaaGreatDoor
namespace Go.Sp

/-- A prime. -/
def Prim (n : Nat) : Prop := 2 ≤ n ∧ ∀ q, 2 ≤ q → q * q ≤ n → ¬ q ∣ n

theorem Prim.div {n g : Nat} (h : Prim n) (hg : g ∣ n) : g = 1 ∨ g = n := by
  obtain ⟨c, hc⟩ := hg
  have h2 := h.1
  by_cases g1 : g = 1
  · exact Or.inl g1
  by_cases c1 : c = 1
  · right; rw [hc, c1, Nat.mul_one]
  have g0 : g ≠ 0 := fun h0 => by rw [h0, Nat.zero_mul] at hc; omega
  have c0 : c ≠ 0 := fun h0 => by rw [h0, Nat.mul_zero] at hc; omega
  exfalso
  rcases Nat.le_total g c with hle | hle
  · exact h.2 g (by omega) (by rw [hc]; exact Nat.mul_le_mul_left g hle) ⟨c, hc⟩
  · exact h.2 c (by omega) (by rw [hc]; exact Nat.mul_le_mul_right c hle) ⟨g, by rw [hc, Nat.mul_comm]⟩

theorem Prim.eu {n a b : Nat} (h : Prim n) (hd : n ∣ a * b) : n ∣ a ∨ n ∣ b := by
  rcases h.div (Nat.gcd_dvd_left n a) with h1 | h1
  · exact Or.inr ((show Nat.Coprime n a from h1).dvd_of_dvd_mul_left hd)
  · left; rw [← h1]; exact Nat.gcd_dvd_right n a

theorem Prim.eui {n : Nat} {a b : Int} (h : Prim n) (hd : (n : Int) ∣ a * b) : (n : Int) ∣ a ∨ (n : Int) ∣ b := by
  have h1 : n ∣ a.natAbs * b.natAbs := by
    rw [← Int.natAbs_mul]
    exact Int.ofNat_dvd_left.1 hd
  rcases h.eu h1 with h2 | h2
  · exact Or.inl (Int.ofNat_dvd_left.2 h2)
  · exact Or.inr (Int.ofNat_dvd_left.2 h2)

/-- A polynomial of degree n, the leading coefficient 1. -/
def Monic : Nat → (Int → Int) → Prop
  | 0, f => ∀ x, f x = 1
  | n + 1, f => ∃ c g, Monic n g ∧ ∀ x, f x = c + x * g x

theorem Monic.low : ∀ (n : Nat) (f h : Int → Int) (r : Int), Monic (n + 1) f → Monic n h → Monic (n + 1) (fun x => f x + r * h x)
  | 0, f, h, r, ⟨c, g, hg, hf⟩, hh => ⟨c + r, g, hg, fun x => by simp only [hf x, hh x]; omega⟩
  | n + 1, f, h, r, ⟨c, g, hg, hf⟩, ⟨d, k, hk, hh⟩ => ⟨c + r * d, _, Monic.low n g k r hg hk, fun x => by simp only [hf x, hh x]; grind⟩

theorem Monic.split : ∀ (n : Nat) (f : Int → Int) (r : Int), Monic (n + 1) f → ∃ g, Monic n g ∧ ∀ x, f x - f r = (x - r) * g x
  | 0, f, r, ⟨c, g, hg, hf⟩ => ⟨g, hg, fun x => by rw [hf x, hf r, hg x, hg r]; omega⟩
  | n + 1, f, r, ⟨c, g, hg, hf⟩ => by
    obtain ⟨h, hh, he⟩ := Monic.split n g r hg
    refine ⟨_, Monic.low n g h r hg hh, fun x => ?_⟩
    have := he x
    rw [hf x, hf r]
    grind

theorem Monic.roots {P : Nat} (hP : Prim P) : ∀ (n : Nat) (f : Int → Int), Monic n f → ∀ xs : List Int, xs.Nodup → (∀ x ∈ xs, 0 ≤ x ∧ x < P ∧ (P : Int) ∣ f x) → xs.length ≤ n
  | 0, f, hf, [], _, _ => by simp
  | 0, f, hf, x :: xs, _, hx => by
    obtain ⟨_, _, h⟩ := hx x (by simp)
    rw [hf x] at h
    have := Int.le_of_dvd (by omega) h
    have := hP.1
    omega
  | n + 1, f, hf, [], _, _ => by simp
  | n + 1, f, hf, r :: xs, hn, hx => by
    obtain ⟨g, hg, he⟩ := Monic.split n f r hf
    obtain ⟨hr, hn⟩ := List.nodup_cons.1 hn
    have := Monic.roots hP n g hg xs hn fun x hxm => by
      obtain ⟨r0, r1, rd⟩ := hx r (by simp)
      obtain ⟨x0, x1, xd⟩ := hx x (by simp [hxm])
      refine ⟨x0, x1, ?_⟩
      have hd : (P : Int) ∣ (x - r) * g x := by rw [← he x]; exact Int.dvd_sub xd rd
      rcases hP.eui hd with h | h
      · exfalso
        obtain ⟨k, hk⟩ := h
        have : x ≠ r := fun e => hr (e ▸ hxm)
        have hk0 : k = 0 := by
          refine Int.le_antisymm (Int.not_lt.1 fun hlt => ?_) (Int.not_lt.1 fun hlt => ?_)
          · have : (P : Int) * 1 ≤ P * k := Int.mul_le_mul_of_nonneg_left (by omega) (by omega)
            omega
          · have : (P : Int) * k ≤ P * (-1) := Int.mul_le_mul_of_nonneg_left (by omega) (by omega)
            omega
        rw [hk0] at hk; omega
      · exact h
    simp; omega

theorem monic_pow : ∀ n : Nat, Monic n (fun x => x ^ n)
  | 0 => fun x => by simp
  | n + 1 => ⟨0, fun x => x ^ n, monic_pow n, fun x => by simp only [Int.pow_succ]; rw [Int.mul_comm]; omega⟩

theorem monic_root {n : Nat} (hn : 1 ≤ n) : Monic n (fun x => x ^ n - 1) := by
  obtain ⟨m, rfl⟩ : ∃ m, n = m + 1 := ⟨n - 1, by omega⟩
  obtain ⟨c, g, hg, hf⟩ := monic_pow (m + 1)
  exact ⟨c - 1, g, hg, fun x => by have := hf x; simp only at this ⊢; omega⟩

/-- At most Q residues have the Q-th power 1. -/
theorem few_roots {P Q : Int} (hP : Prim P.toNat) (hQ : 1 ≤ Q) (xs : List Int) (hn : xs.Nodup) (hx : ∀ x ∈ xs, elB P Q x = true) : xs.length ≤ Q.toNat := by
  have h2 := hP.1
  refine Monic.roots hP Q.toNat _ (monic_root (by omega)) xs hn fun x hm => ?_
  obtain ⟨x0, x1, x2⟩ := el_iff.1 (hx x hm)
  refine ⟨by omega, by omega, ?_⟩
  rw [show ((P.toNat : Nat) : Int) = P by omega]
  rw [pw] at x2
  exact Int.dvd_of_emod_eq_zero (by rw [Int.sub_emod, x2]; simp)

/-- A power that is 1 divides: of a prime order. -/
theorem pw_one_of {P Q a : Int} (hP : 2 ≤ P) (hQ : Prim Q.toNat) (ha : elB P Q a = true) {k : Nat} (h0 : 0 < k) (h1 : k < Q.toNat) (hk : pw a k P = 1) : a = 1 := by
  obtain ⟨a0, a1, a2⟩ := el_iff.1 ha
  have hE : ∃ o : Nat, 0 < o ∧ pw a o P = 1 := ⟨k, h0, hk⟩
  have low : ∀ m : Nat, 0 < m → pw a m P = 1 → ∃ o, 0 < o ∧ o ≤ m ∧ pw a o P = 1 ∧ ∀ j, 0 < j → j < o → pw a j P ≠ 1 := by
    intro m
    induction m using Nat.strongRecOn with
    | _ m ih =>
      intro hm h
      by_cases hj : ∃ j, 0 < j ∧ j < m ∧ pw a j P = 1
      · obtain ⟨j, j0, j1, j2⟩ := hj
        obtain ⟨o, h1, h2, h3⟩ := ih j j1 j0 j2
        exact ⟨o, h1, by omega, h3⟩
      · exact ⟨m, hm, by omega, h, fun j j0 j1 j2 => hj ⟨j, j0, j1, j2⟩⟩
  obtain ⟨o, o0, o1, o2, o3⟩ := low k h0 hk
  have dv : ∀ m : Nat, pw a m P = 1 → o ∣ m := by
    intro m hm
    refine Nat.dvd_of_mod_eq_zero ?_
    refine Nat.eq_zero_of_not_pos fun hp => o3 _ hp (Nat.mod_lt _ o0) ?_
    rw [← Nat.div_add_mod m o, pw_add, pw_mul, o2, pw_one_base, Int.emod_eq_of_lt (show (0 : Int) ≤ 1 by omega) (by omega), Int.one_mul] at hm
    rw [← hm]
    exact (emod_self _ _).symm
  rcases hQ.div (dv _ a2) with h | h
  · rw [h] at o2
    rwa [pw_one_exp (by omega) a1] at o2
  · omega

theorem pw_inj {P Q a : Int} (hP : 2 ≤ P) (hQ : Prim Q.toNat) (ha : elB P Q a = true) (h1 : a ≠ 1) {i j : Nat} (hi : i < Q.toNat) (hj : j < Q.toNat) (h : pw a i P = pw a j P) : i = j := by
  have key : ∀ i j : Nat, i < j → j < Q.toNat → pw a i P = pw a j P → False := by
    intro i j hij hj h
    refine h1 (pw_one_of hP hQ ha (k := j - i) (by omega) (by omega) ?_)
    have h2 : pw a (Q.toNat - i) P * pw a i P % P = pw a (Q.toNat - i) P * pw a j P % P := by rw [h]
    rw [← pw_add, ← pw_add, show Q.toNat - i + i = Q.toNat by omega, show Q.toNat - i + j = Q.toNat + (j - i) by omega, pw_add, (el_iff.1 ha).2.2, Int.one_mul] at h2
    rw [h2]
    exact (emod_self _ _).symm
  rcases Nat.lt_trichotomy i j with h2 | h2 | h2
  · exact (key i j h2 hj h).elim
  · exact h2
  · exact (key j i h2 hi h.symm).elim

/-- The powers of an element. -/
def pows (P Q a : Int) : List Int := (List.range Q.toNat).map fun i => pw a i P

theorem pows_nodup {P Q a : Int} (hP : 2 ≤ P) (hQ : Prim Q.toNat) (ha : elB P Q a = true) (h1 : a ≠ 1) : (pows P Q a).Nodup := by
  unfold pows
  rw [List.nodup_iff_pairwise_ne, List.pairwise_map]
  refine List.Pairwise.imp_of_mem ?_ List.nodup_range
  intro i j hi hj hne h
  exact hne (pw_inj hP hQ ha h1 (List.mem_range.1 hi) (List.mem_range.1 hj) h)

/-- All elements are powers of one other than 1. -/
theorem mem_pows {P Q a x : Int} (hP : Prim P.toNat) (hQ : Prim Q.toNat) (ha : elB P Q a = true) (h1 : a ≠ 1) (hx : elB P Q x = true) : x ∈ pows P Q a := by
  have p2 := hP.1
  have q2 := hQ.1
  refine Classical.byContradiction fun hn => ?_
  have := few_roots (P := P) (Q := Q) hP (by omega) (x :: pows P Q a) (List.nodup_cons.2 ⟨hn, pows_nodup (by omega) hQ ha h1⟩) (by
    intro y hy
    rcases List.mem_cons.1 hy with rfl | hy
    · exact hx
    · obtain ⟨i, _, rfl⟩ := List.mem_map.1 hy
      exact el_pw (by omega) (by omega) ha i)
  simp [pows] at this
  omega

theorem of_mem_pows {P Q a x : Int} (hP : 2 ≤ P) (hQ : 1 ≤ Q) (ha : elB P Q a = true) (hx : x ∈ pows P Q a) : elB P Q x = true := by
  obtain ⟨i, _, rfl⟩ := List.mem_map.1 hx
  exact el_pw hP hQ ha i
end Go.Sp
