/- A region that draws its order, one operation with a guard that says yes. Over any program. Package unlink: Count. Baby steps and giant steps: the plain side. The statements of layer 10 on products and powers: walks. GroupProducts: the walk. -/
import Derived.Test.YtdbhleinhpiohaaGreatDoorMB19
import Derived.Test.YtdbhleinhpiohaaGreatDoorMB18
import Derived.Test.YtdbhleinhpiohaaGreatDoorMB4
import Derived.Test.YtdbhleinhpiohaaGreatDoorMB7
import Derived.Test.YtdbhleinhpiohaaGreatDoorMB3
import Derived.Deep.CutRange
import Derived.Maps.Own
import Derived.Maps.OwnOps
import Derived.Maps.OwnSet
import Derived.Maps.Views
import Derived.Deep.RegionHeld3
namespace Go.Sp
open Go.RowKit
theorem anyE_oneG {P : Program} {ops : Array Oper} {Q : Exit → Act → World → Prop} {S : World → Prop} {last : Nat} {i : Nat} {o : Oper} {n : Nat} {listed : Array Bool} {a : Act} {w : World} (ho : ops[i]? = some o) (hr : Region.ready .any ops listed = [i]) (hg : Region.wanted o (yielded ops a.tmps) = true)
    (h : ∀ K : Act → World → Prop, Hid (∀ b u, (i = last ∨ S u) → anyE P ops Q S last n (listed.setIfInBounds i true) b u → K b u) → o.wp P a w K Q) : anyE P ops Q S last (n + 1) listed a w := by
  refine ⟨fun h0 => (by rw [hr] at h0; cases h0), fun j hj => ?_⟩
  rw [hr] at hj
  obtain rfl : j = i := by simpa using hj
  unfold wpOp
  simp only [ho]
  rw [if_pos hg]
  exact .inl (h _ (hid fun b u hS k => ⟨hS, k⟩))
end Go.Sp
namespace Go.Proofs.YtdbhleinhpiohaaGreatDoor
open Go.RowKit Go.Sp
set_option maxHeartbeats 4000000
set_option maxRecDepth 20000

/-- What Count returns, by the first error. -/
def ucN (F Q n : Int) : Int := if F = 0 then (if Q > 113 then 0 else n) else 0
def ucE (F Q : Int) : Int := if F = 0 then (if Q > 113 then 9 else 0) else F

theorem uCount_any (P Q G A B C k1 k2 k3 m z x y c r p : Int) (root : Nat → Int) (sz sa sb sr : Int) (w : World) (hP : -9223372036854775808 ≤ P) (hQ : Q ≤ 9223372036854775807) (hT : Tab w) (hS : TabS w) (hR : Byt root) :
    Calls Tryz.prog 6 #[bas P Q G A B C, bkey k1 k2 k3, vw m z x y c r, .int .i64 p, hashV root, sgn sz sa sb sr] w fun e w' => e = .returned (.tuple #[.int .i64 (ucN (fltE (kvB P Q G A B C k1 k2 k3) (cvB P Q G A B C k1 k2 k3 m z x y c r) (verB P Q G A B C k1 k2 k3 p root sz sa sb sr)) Q (cntF P Q G m z x y c r p (coinC P Q G A B C p root sz sa sb) sz sa sb sr : Nat)), .int .i64 (ucE (fltE (kvB P Q G A B C k1 k2 k3) (cvB P Q G A B C k1 k2 k3 m z x y c r) (verB P Q G A B C k1 k2 k3 p root sz sa sb sr)) Q)]) ∧ Up w w' := by
  have M1 := hid (fun w' (hU : Up w w') => uCheck_any P Q G A B C k1 k2 k3 m z x y c r p root sz sa sb sr w' hP hQ (hT.up hU) (hS.up hU) hR)
  have M2 := hid (fun w' (hU : Up w w') => resChallenge_any P Q G A B C p root sz sa sb sr w' hP hQ (hT.up hU) (hS.up hU) hR)
  have HF := hid (flt_ok (P := P) (Q := Q) (G := G) (A := A) (B := B) (C := C) (k1 := k1) (k2 := k2) (k3 := k3) (m := m) (z := z) (x := x) (y := y) (c := c) (r := r) (p := p) (root := root) (sz := sz) (sa := sa) (sb := sb) (sr := sr))
  generalize fltE (kvB P Q G A B C k1 k2 k3) (cvB P Q G A B C k1 k2 k3 m z x y c r) (verB P Q G A B C k1 k2 k3 p root sz sa sb sr) = E at *
  obtain ⟨R, hRr⟩ : ∃ R : Int, ucN E Q (cntF P Q G m z x y c r p (coinC P Q G A B C p root sz sa sb) sz sa sb sr : Nat) = R := ⟨_, rfl⟩
  obtain ⟨T, hTt⟩ : ∃ T, ucE E Q = T := ⟨_, rfl⟩
  have HRr := hid hRr
  have HTt := hid hTt
  rw [hRr, hTt]
  clear hRr hTt
  obtain ⟨cs, hcs⟩ : ∃ cs, arrK .u8 root 32 = cs := ⟨_, rfl⟩
  have HCz : Hid ((Tryz.prog.info? 31).map (·.size) = some cs.size) := hid (by rw [← hcs, arrK_size]; kernel_rfl)
  unfold hashV at M1 M2 ⊢
  rw [hcs] at M1 M2 ⊢
  obtain ⟨o, ho⟩ : ∃ o, w.heap.size = o := ⟨_, rfl⟩
  have HO := hid ho
  obtain ⟨o1, ho1⟩ : ∃ o1, o + 1 = o1 := ⟨_, rfl⟩
  have HO1 := hid ho1
  obtain ⟨o2, ho2⟩ : ∃ o2, o1 + 1 = o2 := ⟨_, rfl⟩
  have HO2 := hid ho2
  obtain ⟨o3, ho3⟩ : ∃ o3, o2 + 1 = o3 := ⟨_, rfl⟩
  have HO3 := hid ho3
  obtain ⟨o4, ho4⟩ : ∃ o4, o3 + 1 = o4 := ⟨_, rfl⟩
  have HO4 := hid ho4
  clear hT hS hR hcs ho ho1 ho2 ho3 ho4
  go_enter Tryz.func6, Tryz.ntmps6
  go_wp2_with (refine wpList_load_row rfl 31 _ rfl (w.heap.size + 1 + 1 + 1) rfl 31 cs (0, 0) _ (Blk.alloc (Blk.new (by simp) rfl) _) Tryz.underlying31 rfl HCz.out ?_)
  refine (M1.out _ ((((((Up.refl w).alloc _).alloc _).alloc _).alloc _).alloc _)).mono ?_
  rintro e w1 ⟨rfl, hU1⟩
  have HA1 := hid (((nums_six (w := w) (t := 25) HO.out).up (((((Up.refl _).alloc _).alloc _).alloc _).alloc _)).up hU1)
  have HV1 := hid (((nums_six (r := o2) (t := 29) (by have := HO.out; have := HO1.out; have := HO2.out; have := HO3.out; have := HO4.out; simp; omega)).up (((Up.refl _).alloc _).alloc _)).up hU1)
  have HC1 := hid (((Blk.new (g := o3) (t := 31) (by have := HO.out; have := HO1.out; have := HO2.out; have := HO3.out; have := HO4.out; simp; omega) rfl).up ((Up.refl _).alloc _)).up hU1)
  have HS1 := hid (((Blk.new (g := o4) (t := 33) (by have := HO.out; have := HO1.out; have := HO2.out; have := HO3.out; have := HO4.out; simp; omega) rfl)).up hU1)
  have HU1 := hid (((((((Up.refl w).alloc _).alloc _).alloc _).alloc _).alloc _).trans hU1)
  clear hU1
  rw [HO.out, HO1.out, HO2.out, HO3.out, HO4.out]
  obtain ⟨⟨lc0, lc1, lc2⟩, lc3, lc4, lc5⟩ := HA1.out
  obtain ⟨⟨lb0, lb1, lb2⟩, lb3, lb4, lb5⟩ := HV1.out
  have ls0 := HS1.out.val (i := 0) rfl
  have ls1 := HS1.out.val (i := 1) rfl
  have ls2 := HS1.out.val (i := 2) rfl
  have ls3 := HS1.out.val (i := 3) rfl
  by_cases hE : E = 0
  case neg =>
    have d : (E != 0) = true := by simpa using hE
    obtain rfl : R = 0 := by rw [← HRr.out, ucN, if_neg hE]
    obtain rfl : T = E := by rw [← HTt.out, ucE, if_neg hE]
    clear hE HRr HTt
    go_wp2
    go_ret2
    exact ⟨rfl, HU1.out⟩
  by_cases hq : Q > 113
  case pos =>
    have d1 : decide (Q > 113) = true := by simpa using hq
    obtain rfl : R = 0 := by rw [← HRr.out, ucN, if_pos hE, if_pos hq]
    obtain rfl : T = 9 := by rw [← HTt.out, ucE, if_pos hE, if_pos hq]
    subst hE
    clear hq HRr HTt
    go_wp2
    go_ret2
    exact ⟨rfl, HU1.out.alloc _⟩
  have d1 : decide (Q > 113) = false := by simpa using hq
  obtain rfl : T = 0 := by rw [← HTt.out, ucE, if_pos hE, if_neg hq]
  obtain ⟨hbv, ⟨hm, hz, hx, hy, hc, hr⟩, hp, hsz, hsa, hsb, hsr⟩ := HF.out hE
  subst hE
  have g := gv_iff.1 (bv_iff.1 hbv).1
  have g1 := g.P61
  have g2 := g.P4
  have g3 := g.Q3
  have g4 := g.QP
  have g5 := g.G2
  have g6 := g.GP
  have hE : chlE P Q G A B C p sz sa sb = 0 := by rw [chlE, if_pos hbv, if_pos (by simp [gn_el hp, hsz, hsa, hsb])]
  have hV : chlV P Q G A B C p root sz sa sb = coinC P Q G A B C p root sz sa sb := by rw [chlV, if_pos hE]
  rw [hE, hV] at M2
  have hRv : R = (cntF P Q G m z x y c r p (coinC P Q G A B C p root sz sa sb) sz sa sb sr : Nat) := by rw [← HRr.out, ucN, if_pos rfl, if_neg hq]
  generalize coinC P Q G A B C p root sz sa sb = V at *
  obtain ⟨a1, a2, _⟩ := el_iff.1 (gn_el hm)
  obtain ⟨a3, a4, _⟩ := el_iff.1 hz
  obtain ⟨a5, a6, _⟩ := el_iff.1 hx
  obtain ⟨a7, a8, _⟩ := el_iff.1 hy
  obtain ⟨a9, a10⟩ := nzB_iff.1 hc
  obtain ⟨a11, a12⟩ := exB_iff.1 hr
  obtain ⟨a13, a14, _⟩ := el_iff.1 (gn_el hp)
  obtain ⟨a15, a16⟩ := exB_iff.1 hsr
  have hQ1 : Q ≤ 113 := by omega
  obtain ⟨K, hK⟩ : ∃ K : Nat, (Q - 1).toNat = K := ⟨_, rfl⟩
  have hKQ : Q - 1 = (K : Int) := by omega
  have hKw : IntKind.i64.wrap (Q - 1) = (K : Int) := by rw [IntKind.wrap_i64]; omega
  have hK112 : K ≤ 112 := by omega
  obtain ⟨J, hJ⟩ : ∃ J : Nat → Int, (fun j : Nat => r * ((j : Int) + 1) % Q) = J := ⟨_, rfl⟩
  have M3 := hid (fun (j : Nat) (hj : j < K) w' => show Calls _ _ #[_, .int .i64 r, .int .i64 ((j : Int) + 1)] _ (fun e w'' => e = .returned (.int .i64 (J j)) ∧ Up w' w'') by rw [← hJ]; exact fMul_ok P Q G r ((j : Int) + 1) w' a11 a12 (by omega) (by omega) (by omega))
  have M4 := hid (fun (j : Nat) w' => fSub_ok P Q G sr (J j) w' a15 a16 (by rw [← hJ]; exact Int.emod_nonneg _ (by omega)) (by rw [← hJ]; exact Int.emod_lt_of_pos _ (by omega)) (by omega))
  have M5 := hid (fun (i j : Nat) w' => show Calls _ _ #[grp P Q G, vw m z x y c r, .agg #[.int .i64 ((i : Int) + 1), .int .i64 ((j : Int) + 1), .int .i64 ((sr - J j) % Q)], .int .i64 p, .int .i64 V, sgn sz sa sb sr] _ (fun e w'' => e = .returned (.bool (fitN P Q G m z x y c r p V sz sa sb sr i j)) ∧ Up w' w'') by rw [← hJ]; exact explains_any P Q G m z x y c r ((i : Int) + 1) ((j : Int) + 1) ((sr - r * ((j : Int) + 1) % Q) % Q) p V sz sa sb sr w' g1 (by omega) (by omega) (by omega) g6 (by omega) a2 (by omega) a4 (by omega) a6 (by omega) a8 (by omega) a10 a11 a12 (by omega) a14)
  unfold cntF at hRv
  rw [hK] at hRv
  generalize fitN P Q G m z x y c r p V sz sa sb sr = F at *
  clear hJ
  have HRv := hid hRv
  clear HRr HTt HF hbv hm hz hx hy hc hr hp hsz hsa hsb hsr g g1 g2 g3 g4 g5 g6 hE hV a1 a2 a3 a4 a5 a6 a7 a8 a9 a10 a11 a12 a13 a14 a15 a16 hRv hq hK hQ1
  have t0 := cell_lt lc0
  have t2 := cell_lt lb0
  have t4 := cell_lt ls0
  go_wp2_with (refine wpList_load_row rfl 31 _ rfl o3 rfl 31 cs (0, 0) _ (HC1.out.alloc _) Tryz.underlying31 rfl HCz.out ?_)
  obtain ⟨f, hf⟩ : ∃ f, w1.heap.size = f := ⟨_, rfl⟩
  refine (M2.out _ (HU1.out.alloc _)).mono ?_
  rintro e w2 ⟨rfl, hU2⟩
  have HG2 := hid (((nums_three (w := w1) (r := f) (t := 54) (x := P) (y := Q) (z := G) hf)).up hU2)
  have hU2 := ((Up.refl w1).alloc _).trans hU2
  have HA2 := hid (HA1.out.up hU2)
  have HV2 := hid (HV1.out.up hU2)
  have HC2 := hid (HC1.out.up hU2)
  have HS2 := hid (HS1.out.up hU2)
  have HU2 := hid (HU1.out.trans hU2)
  clear hU2 HA1 HV1 HC1 HS1 HU1 lc0 lc1 lc2 lc3 lc4 lc5 lb0 lb1 lb2 lb3 lb4 lb5 ls0 ls1 ls2 ls3
  obtain ⟨lg0, lg1, lg2⟩ := HG2.out
  obtain ⟨⟨lb0, lb1, lb2⟩, lb3, lb4, lb5⟩ := HV2.out
  have ls0 := HS2.out.val (i := 0) rfl
  have ls1 := HS2.out.val (i := 1) rfl
  have ls2 := HS2.out.val (i := 2) rfl
  have ls3 := HS2.out.val (i := 3) rfl
  rw [hf]
  clear hf
  go_wp2_with fail
  go_loopw [18, 54] (fun vn vi wr => ∃ i : Nat, i ≤ K ∧ vn = .int .i64 (cS (fun i => cR (F i) K) i : Nat) ∧ vi = .int .i64 i ∧ Hid (Up w2 wr)) (fun _ vi _ => K - (intOf vi).toNat)
  case atStart => exact ⟨0, by omega, rfl, rfl, hid (Up.refl _)⟩
  case round =>
    obtain ⟨i, hi, rfl, rfl, HUr⟩ := hrel
    have lw : w2.heap.size ≤ wr.heap.size := HUr.out.size
    clear lg0 lg1 lg2 lb0 lb1 lb2 lb3 lb4 lb5 ls0 ls1 ls2 ls3
    obtain ⟨lg0, lg1, lg2⟩ := HG2.out.up HUr.out
    have hcs := cS_le2 (g := fun i => cR (F i) K) (B := K) (fun i => cR_le _ _) hi
    have hcm : K * K ≤ 112 * 112 := Nat.mul_le_mul hK112 hK112
    obtain ⟨N, hN⟩ : ∃ N, cS (fun i => cR (F i) K) i = N := ⟨_, rfl⟩
    have HN := hid hN
    rw [hN] at hcs ⊢
    clear hN
    by_cases hlt : i < K
    · have hi1 : (i : Int) < K := by omega
      go_wp2_with fail
      go_loopw [18, 61] (fun vn vj wi => ∃ j : Nat, j ≤ K ∧ vn = .int .i64 (N + cR (F i) j : Nat) ∧ vj = .int .i64 j ∧ Hid (Up w2 wi)) (fun _ vj _ => K - (intOf vj).toNat)
      case atStart => exact ⟨0, by omega, rfl, rfl, HUr⟩
      case round =>
        clear HUr lg0 lg1 lg2 lw
        obtain ⟨j, hj, rfl, rfl, HUr⟩ := hrel
        have hcr := cR_le (F i) j
        obtain ⟨M, hM⟩ : ∃ M, cR (F i) j = M := ⟨_, rfl⟩
        have HM := hid hM
        rw [hM] at hcr ⊢
        clear hM
        by_cases hjt : j < K
        · have hj1 : (j : Int) < K := by omega
          have hwi : IntKind.i64.wrap ((i : Int) + 1) = (i : Int) + 1 := by rw [IntKind.wrap_i64]; omega
          have hwj : IntKind.i64.wrap ((j : Int) + 1) = (j : Int) + 1 := by rw [IntKind.wrap_i64]; omega
          have N3 := hid (fun w' => M3.out j hjt w')
          have N4 := hid (fun w' => M4.out j w')
          have N5 := hid (fun w' => M5.out i j w')
          have HT := hid (fun (h : F i j = true) => cR_true h)
          have HFa := hid (fun (h : F i j = false) => cR_false h)
          generalize F i j = b at *
          generalize J j = X at *
          generalize (sr - X) % Q = Y at *
          go_wp2_with fail
          go_cut [21] from 64 to 78 (fun va w' => ∃ g, va = .pointer (some ⟨g, 0, none⟩) ∧ Hid (Up wr w') ∧ Hid (Blk w' g 36 #[.int .i64 ((i : Int) + 1), .int .i64 ((j : Int) + 1), .int .i64 Y]))
          case first =>
            refine region_E (fun u => Up wr u) 17 (by kernel_rfl) (Up.refl wr).drew fun hS => ?_
            generalize wr.drew = u0 at *
            refine anyE_takeA (i := 0) (v := ?_) 64 rfl rfl (by kernel_rfl) (by decide) (fun _ _ _ h => h) (by kernel_rfl) (by kernel_rfl) (.inl ⟨by rfl, fun u hu => ?_⟩) hS ?_
            rotate_left
            · (go_simp; first | done | with_reducible rfl)
            try simp only [Act.put, List.setIfInBounds_toArray, List.set_cons_zero, List.set_cons_succ]
            refine anyE_takeA (i := 1) (v := ?_) 65 rfl rfl (by kernel_rfl) (by decide) (fun _ _ _ h => h) (by kernel_rfl) (by kernel_rfl) (.inl ⟨by rfl, fun u hu => ?_⟩) hS ?_
            rotate_left
            · (go_simp; first | done | with_reducible rfl)
            try simp only [Act.put, List.setIfInBounds_toArray, List.set_cons_zero, List.set_cons_succ]
            refine anyE_takeA (i := 2) (v := ?_) 66 rfl rfl (by kernel_rfl) (by decide) (fun _ _ _ h => h) (by kernel_rfl) (by kernel_rfl) (.inl ⟨by rfl, fun u hu => ?_⟩) hS ?_
            rotate_left
            · (go_simp; first | done | with_reducible rfl)
            try simp only [Act.put, List.setIfInBounds_toArray, List.set_cons_zero, List.set_cons_succ]
            refine anyE_takeA (i := 3) (v := ?_) 67 rfl rfl (by kernel_rfl) (by decide) (fun _ _ _ h => h) (by kernel_rfl) (by kernel_rfl) (.inl ⟨by rfl, fun u hu => ?_⟩) hS ?_
            rotate_left
            · (go_simp; first | done | with_reducible rfl)
            try simp only [Act.put, List.setIfInBounds_toArray, List.set_cons_zero, List.set_cons_succ]
            refine anyE_takeA (i := 4) (v := ?_) 68 rfl rfl (by kernel_rfl) (by decide) (fun _ _ _ h => h) (by kernel_rfl) (by kernel_rfl) (.inl ⟨by rfl, fun u hu => ?_⟩) hS ?_
            rotate_left
            · (obtain ⟨z0, z1, z2⟩ := HG2.out.up (HUr.out.trans hu); obtain ⟨⟨z3, z4, z5⟩, z6, z7, z8⟩ := HV2.out.up (HUr.out.trans hu); have z9 := (HS2.out.up (HUr.out.trans hu)).val (i := 3) rfl; go_simp; first | done | with_reducible rfl)
            try simp only [Act.put, List.setIfInBounds_toArray, List.set_cons_zero, List.set_cons_succ]
            refine anyE_takeA (i := 5) (v := ?_) 69 rfl rfl (by kernel_rfl) (by decide) (fun _ _ _ h => h) (by kernel_rfl) (by kernel_rfl) (.inl ⟨by rfl, fun u hu => ?_⟩) hS ?_
            rotate_left
            · (go_simp; first | done | with_reducible rfl)
            try simp only [Act.put, List.setIfInBounds_toArray, List.set_cons_zero, List.set_cons_succ]
            refine anyE_takeA (i := 6) (v := ?_) 70 rfl rfl (by kernel_rfl) (by decide) (fun _ _ _ h => h) (by kernel_rfl) (by kernel_rfl) (.inl ⟨by rfl, fun u hu => ?_⟩) hS ?_
            rotate_left
            · (obtain ⟨z0, z1, z2⟩ := HG2.out.up (HUr.out.trans hu); obtain ⟨⟨z3, z4, z5⟩, z6, z7, z8⟩ := HV2.out.up (HUr.out.trans hu); have z9 := (HS2.out.up (HUr.out.trans hu)).val (i := 3) rfl; go_simp; first | done | with_reducible rfl)
            try simp only [Act.put, List.setIfInBounds_toArray, List.set_cons_zero, List.set_cons_succ]
            refine anyE_takeA (i := 7) (v := ?_) 71 rfl rfl (by kernel_rfl) (by decide) (fun _ _ _ h => h) (by kernel_rfl) (by kernel_rfl) (.inl ⟨by rfl, fun u hu => ?_⟩) hS ?_
            rotate_left
            · (obtain ⟨z0, z1, z2⟩ := HG2.out.up (HUr.out.trans hu); obtain ⟨⟨z3, z4, z5⟩, z6, z7, z8⟩ := HV2.out.up (HUr.out.trans hu); have z9 := (HS2.out.up (HUr.out.trans hu)).val (i := 3) rfl; go_simp; first | done | with_reducible rfl)
            try simp only [Act.put, List.setIfInBounds_toArray, List.set_cons_zero, List.set_cons_succ]
            refine anyE_takeA (i := 8) (v := ?_) 72 rfl rfl (by kernel_rfl) (by decide) (fun _ _ _ h => h) (by kernel_rfl) (by kernel_rfl) (.inl ⟨by rfl, fun u hu => ?_⟩) hS ?_
            rotate_left
            · (go_simp; first | done | with_reducible rfl)
            try simp only [Act.put, List.setIfInBounds_toArray, List.set_cons_zero, List.set_cons_succ]
            refine anyE_takeA (i := 9) (v := ?_) 73 rfl rfl (by kernel_rfl) (by decide) (fun _ _ _ h => h) (by kernel_rfl) (by kernel_rfl) (.inl ⟨by rfl, fun u hu => ?_⟩) hS ?_
            rotate_left
            · (obtain ⟨z0, z1, z2⟩ := HG2.out.up (HUr.out.trans hu); obtain ⟨⟨z3, z4, z5⟩, z6, z7, z8⟩ := HV2.out.up (HUr.out.trans hu); have z9 := (HS2.out.up (HUr.out.trans hu)).val (i := 3) rfl; go_simp; first | done | with_reducible rfl)
            try simp only [Act.put, List.setIfInBounds_toArray, List.set_cons_zero, List.set_cons_succ]
            refine anyE_takeA (i := 10) (v := ?_) 74 rfl rfl (by kernel_rfl) (by decide) (fun _ _ _ h => h) (by kernel_rfl) (by kernel_rfl) (.inl ⟨by rfl, fun u hu => ?_⟩) hS ?_
            rotate_left
            · (go_simp; first | done | with_reducible rfl)
            try simp only [Act.put, List.setIfInBounds_toArray, List.set_cons_zero, List.set_cons_succ]
            refine anyE_takeA (i := 11) (v := ?_) 75 rfl rfl (by kernel_rfl) (by decide) (fun _ _ _ h => h) (by kernel_rfl) (by kernel_rfl) (.inl ⟨by rfl, fun u hu => ?_⟩) hS ?_
            rotate_left
            · (go_simp; first | done | with_reducible rfl)
            try simp only [Act.put, List.setIfInBounds_toArray, List.set_cons_zero, List.set_cons_succ]
            refine anyE_two 12 15 (by kernel_rfl) ⟨_, rfl, rfl, fun K hK => ?_⟩ ⟨_, rfl, rfl, fun K hK => ?_⟩
            · go_simp
              refine (N3.out _).mono ?_
              rintro e u1 ⟨rfl, hup⟩
              try dsimp only
              have hS' := hS.trans hup
              refine hK.out _ _ (.inr hS') ?_
              clear hK hS hup
              have hS := hS'
              clear hS'
              try simp only [Act.put, List.setIfInBounds_toArray, List.set_cons_zero, List.set_cons_succ]
              refine anyE_two 13 15 (by kernel_rfl) ⟨_, rfl, rfl, fun K hK => ?_⟩ ⟨_, rfl, rfl, fun K hK => ?_⟩
              · go_simp
                refine (N4.out _).mono ?_
                rintro e u2 ⟨rfl, hup⟩
                try dsimp only
                have hS' := hS.trans hup
                refine hK.out _ _ (.inr hS') ?_
                clear hK hS hup
                have hS := hS'
                clear hS'
                try simp only [Act.put, List.setIfInBounds_toArray, List.set_cons_zero, List.set_cons_succ]
                refine anyE_takeA (i := 14) (v := ?_) 78 rfl rfl (by kernel_rfl) (by decide) (fun _ _ _ h => h) (by kernel_rfl) (by kernel_rfl) (.inl ⟨by rfl, fun u hu => ?_⟩) hS ?_
                rotate_left
                · (go_simp; first | done | with_reducible rfl)
                try simp only [Act.put, List.setIfInBounds_toArray, List.set_cons_zero, List.set_cons_succ]
                refine anyE_oneG (i := 15) rfl (by kernel_rfl) (by rfl) (fun K hK => ?_)
                go_simp
                obtain ⟨g, hg⟩ : ∃ g, u2.heap.size = g := ⟨_, rfl⟩
                generalize hWz : World.alloc u2 _ = u3
                have hZ : Blk u3 g 36 #[.int .i64 0, .int .i64 0, .int .i64 0] := by rw [← hWz]; exact Blk.new hg rfl
                have hup : Up u2 u3 := by rw [← hWz]; exact (Up.refl _).alloc _
                have hgg : wr.heap.size ≤ g := by have := hS.size; omega
                try rw [hg]
                have hS' := hS.trans hup
                refine hK.out _ _ (.inr hS') ?_
                clear hK hWz hS hup hg
                have hS := hS'
                clear hS'
                try simp only [Act.put, List.setIfInBounds_toArray, List.set_cons_zero, List.set_cons_succ]
                refine anyE_oneG (i := 16) rfl (by kernel_rfl) (by rfl) (fun K hK => ?_)
                refine op_store_row 36 _ _ rfl rfl g #[.int .i64 ((i : Int) + 1), .int .i64 ((j : Int) + 1), .int .i64 Y] rfl rfl 36 #[.int .i64 0, .int .i64 0, .int .i64 0] hZ (by kernel_rfl) rfl (by first | kernel_rfl | simp [Value.oneCell']) ?_
                have hZ := hZ.row #[.int .i64 ((i : Int) + 1), .int .i64 ((j : Int) + 1), .int .i64 Y]
                have hS' := hS.setRow hgg #[.int .i64 ((i : Int) + 1), .int .i64 ((j : Int) + 1), .int .i64 Y]
                refine hK.out _ _ (.inr hS') ?_
                clear hK hS
                have hS := hS'
                clear hS'
                generalize World.setRow _ g _ = u4 at *
                try simp only [Act.put, List.setIfInBounds_toArray, List.set_cons_zero, List.set_cons_succ]
                refine anyE_done (by kernel_rfl) ?_ _
                go_wp2_with fail
                go_meet
                exact ⟨g, rfl, hid hS, hid hZ⟩
              · go_simp
                obtain ⟨g, hg⟩ : ∃ g, u1.heap.size = g := ⟨_, rfl⟩
                generalize hWz : World.alloc u1 _ = u2
                have hZ : Blk u2 g 36 #[.int .i64 0, .int .i64 0, .int .i64 0] := by rw [← hWz]; exact Blk.new hg rfl
                have hup : Up u1 u2 := by rw [← hWz]; exact (Up.refl _).alloc _
                have hgg : wr.heap.size ≤ g := by have := hS.size; omega
                try rw [hg]
                have hS' := hS.trans hup
                refine hK.out _ _ (.inr hS') ?_
                clear hK hWz hS hup hg
                have hS := hS'
                clear hS'
                try simp only [Act.put, List.setIfInBounds_toArray, List.set_cons_zero, List.set_cons_succ]
                refine anyE_oneG (i := 13) rfl (by kernel_rfl) (by rfl) (fun K hK => ?_)
                go_simp
                refine (N4.out _).mono ?_
                rintro e u3 ⟨rfl, hup⟩
                try dsimp only
                have hS' := hS.trans hup
                refine hK.out _ _ (.inr hS') ?_
                have hZ := hZ.up hup
                clear hK hS hup
                have hS := hS'
                clear hS'
                try simp only [Act.put, List.setIfInBounds_toArray, List.set_cons_zero, List.set_cons_succ]
                refine anyE_takeA (i := 14) (v := ?_) 78 rfl rfl (by kernel_rfl) (by decide) (fun _ _ _ h => h) (by kernel_rfl) (by kernel_rfl) (.inl ⟨by rfl, fun u hu => ?_⟩) hS ?_
                rotate_left
                · (go_simp; first | done | with_reducible rfl)
                try simp only [Act.put, List.setIfInBounds_toArray, List.set_cons_zero, List.set_cons_succ]
                refine anyE_oneG (i := 16) rfl (by kernel_rfl) (by rfl) (fun K hK => ?_)
                refine op_store_row 36 _ _ rfl rfl g #[.int .i64 ((i : Int) + 1), .int .i64 ((j : Int) + 1), .int .i64 Y] rfl rfl 36 #[.int .i64 0, .int .i64 0, .int .i64 0] hZ (by kernel_rfl) rfl (by first | kernel_rfl | simp [Value.oneCell']) ?_
                have hZ := hZ.row #[.int .i64 ((i : Int) + 1), .int .i64 ((j : Int) + 1), .int .i64 Y]
                have hS' := hS.setRow hgg #[.int .i64 ((i : Int) + 1), .int .i64 ((j : Int) + 1), .int .i64 Y]
                refine hK.out _ _ (.inr hS') ?_
                clear hK hS
                have hS := hS'
                clear hS'
                generalize World.setRow _ g _ = u4 at *
                try simp only [Act.put, List.setIfInBounds_toArray, List.set_cons_zero, List.set_cons_succ]
                refine anyE_done (by kernel_rfl) ?_ _
                go_wp2_with fail
                go_meet
                exact ⟨g, rfl, hid hS, hid hZ⟩
            · go_simp
              obtain ⟨g, hg⟩ : ∃ g, u0.heap.size = g := ⟨_, rfl⟩
              generalize hWz : World.alloc u0 _ = u1
              have hZ : Blk u1 g 36 #[.int .i64 0, .int .i64 0, .int .i64 0] := by rw [← hWz]; exact Blk.new hg rfl
              have hup : Up u0 u1 := by rw [← hWz]; exact (Up.refl _).alloc _
              have hgg : wr.heap.size ≤ g := by have := hS.size; omega
              try rw [hg]
              have hS' := hS.trans hup
              refine hK.out _ _ (.inr hS') ?_
              clear hK hWz hS hup hg
              have hS := hS'
              clear hS'
              try simp only [Act.put, List.setIfInBounds_toArray, List.set_cons_zero, List.set_cons_succ]
              refine anyE_oneG (i := 12) rfl (by kernel_rfl) (by rfl) (fun K hK => ?_)
              go_simp
              refine (N3.out _).mono ?_
              rintro e u2 ⟨rfl, hup⟩
              try dsimp only
              have hS' := hS.trans hup
              refine hK.out _ _ (.inr hS') ?_
              have hZ := hZ.up hup
              clear hK hS hup
              have hS := hS'
              clear hS'
              try simp only [Act.put, List.setIfInBounds_toArray, List.set_cons_zero, List.set_cons_succ]
              refine anyE_oneG (i := 13) rfl (by kernel_rfl) (by rfl) (fun K hK => ?_)
              go_simp
              refine (N4.out _).mono ?_
              rintro e u3 ⟨rfl, hup⟩
              try dsimp only
              have hS' := hS.trans hup
              refine hK.out _ _ (.inr hS') ?_
              have hZ := hZ.up hup
              clear hK hS hup
              have hS := hS'
              clear hS'
              try simp only [Act.put, List.setIfInBounds_toArray, List.set_cons_zero, List.set_cons_succ]
              refine anyE_takeA (i := 14) (v := ?_) 78 rfl rfl (by kernel_rfl) (by decide) (fun _ _ _ h => h) (by kernel_rfl) (by kernel_rfl) (.inl ⟨by rfl, fun u hu => ?_⟩) hS ?_
              rotate_left
              · (go_simp; first | done | with_reducible rfl)
              try simp only [Act.put, List.setIfInBounds_toArray, List.set_cons_zero, List.set_cons_succ]
              refine anyE_oneG (i := 16) rfl (by kernel_rfl) (by rfl) (fun K hK => ?_)
              refine op_store_row 36 _ _ rfl rfl g #[.int .i64 ((i : Int) + 1), .int .i64 ((j : Int) + 1), .int .i64 Y] rfl rfl 36 #[.int .i64 0, .int .i64 0, .int .i64 0] hZ (by kernel_rfl) rfl (by first | kernel_rfl | simp [Value.oneCell']) ?_
              have hZ := hZ.row #[.int .i64 ((i : Int) + 1), .int .i64 ((j : Int) + 1), .int .i64 Y]
              have hS' := hS.setRow hgg #[.int .i64 ((i : Int) + 1), .int .i64 ((j : Int) + 1), .int .i64 Y]
              refine hK.out _ _ (.inr hS') ?_
              clear hK hS
              have hS := hS'
              clear hS'
              generalize World.setRow _ g _ = u4 at *
              try simp only [Act.put, List.setIfInBounds_toArray, List.set_cons_zero, List.set_cons_succ]
              refine anyE_done (by kernel_rfl) ?_ _
              go_wp2_with fail
              go_meet
              exact ⟨g, rfl, hid hS, hid hZ⟩
          case rest =>
            rename World => w5
            obtain ⟨g, rfl, HUc, HZ5⟩ := hcut
            clear hwi hwj
            have HU5 := hid (HUr.out.trans HUc.out)
            clear HUc HUr
            obtain ⟨lg0, lg1, lg2⟩ := HG2.out.up HU5.out
            obtain ⟨⟨lb0, lb1, lb2⟩, lb3, lb4, lb5⟩ := HV2.out.up HU5.out
            have ls0 := (HS2.out.up HU5.out).val (i := 0) rfl
            have ls1 := (HS2.out.up HU5.out).val (i := 1) rfl
            have ls2 := (HS2.out.up HU5.out).val (i := 2) rfl
            have ls3 := (HS2.out.up HU5.out).val (i := 3) rfl
            have z0 := HZ5.out.val (i := 0) rfl
            have z1 := HZ5.out.val (i := 1) rfl
            have z2 := HZ5.out.val (i := 2) rfl
            go_wp2_with fail
            refine (N5.out _).mono ?_
            rintro e w6 ⟨rfl, hU6⟩
            have HU6 := hid (HU5.out.trans hU6)
            clear hU6 HU5 HZ5 lg0 lg1 lg2 lb0 lb1 lb2 lb3 lb4 lb5 ls0 ls1 ls2 ls3 z0 z1 z2
            cases b
            · have hn := HFa.out rfl
              clear HT HFa
              go_wp2_with fail
              go_roundw
              case rel => exact ⟨j + 1, by omega, by rw [hn, HM.out]; simp, by go_num, HU6⟩
              case measure => simp [intOf]; omega
            · have hn := HT.out rfl
              clear HT HFa
              go_wp2_with fail
              go_roundw
              case rel => exact ⟨j + 1, by omega, by rw [hn, HM.out]; go_num, by go_num, HU6⟩
              case measure => simp [intOf]; omega
        · obtain rfl : j = K := by omega
          go_wp2_with fail
          go_roundw
          case rel => exact ⟨i + 1, by omega, by rw [cS, HN.out, HM.out], by go_num, HUr⟩
          case measure => simp [intOf]; omega
    · obtain rfl : i = K := by omega
      obtain rfl : R = (N : Int) := by rw [HRv.out, HN.out]
      go_wp2
      go_ret2
      exact ⟨rfl, HU2.out.trans HUr.out⟩
end Go.Proofs.YtdbhleinhpiohaaGreatDoor
namespace Go.Proofs.YtdbhleinhpiohaaGreatDoor
open Go.Sp Go.Maps

/-- The map after n baby steps. -/
def baby (H : Type) (P b x : Int) : Nat → DataW H
  | 0 => .map []
  | n + 1 => (baby H P b x n).put (.int .i64 (x * pw b n P % P)) (.lit (.int .i64 n))

theorem baby_isMap (H : Type) (P b x : Int) : ∀ n, IsMap (baby H P b x n)
  | 0 => isMap_empty
  | n + 1 => (baby_isMap H P b x n).put _ _

theorem baby_has {H : Type} {P b x : Int} : ∀ (n : Nat) (z : Int), Maps.has (baby H P b x n) (.int .i64 z) = true → ∃ j, j < n ∧ z = x * pw b j P % P ∧ ∀ z0, (baby H P b x n).atKey (.int .i64 z) z0 = .lit (.int .i64 j)
  | 0, z, h => by simp [baby, Maps.has] at h
  | n + 1, z, h => by
    by_cases he : z = x * pw b n P % P
    · refine ⟨n, by omega, he, fun z0 => ?_⟩
      rw [he]
      exact atKey_put_same (k := .int .i64 (x * pw b n P % P)) (baby_isMap H P b x n) (show WideAt.IsKeyLit (.int .i64 (x * pw b n P % P)) from True.intro) _ _
    · have hne : Lit.int .i64 z ≠ Lit.int .i64 (x * pw b n P % P) := fun e => he (by injection e)
      rw [baby, has_put_other hne] at h
      obtain ⟨j, hj, hz, ha⟩ := baby_has n z h
      exact ⟨j, by omega, hz, fun z0 => by rw [baby, atKey_put_other hne]; exact ha z0⟩

theorem baby_there {H : Type} {P b x : Int} : ∀ (n j : Nat), j < n → Maps.has (baby H P b x n) (.int .i64 (x * pw b j P % P)) = true
  | n + 1, j, hj => by
    by_cases he : x * pw b j P % P = x * pw b n P % P
    · rw [he]
      exact has_put_same (k := .int .i64 (x * pw b n P % P)) (baby_isMap H P b x n) (show WideAt.IsKeyLit (.int .i64 (x * pw b n P % P)) from True.intro) _
    · have hne : Lit.int .i64 (x * pw b j P % P) ≠ Lit.int .i64 (x * pw b n P % P) := fun e => he (by injection e)
      rw [baby, has_put_other hne]
      refine baby_there n j ?_
      refine Nat.lt_of_le_of_ne (by omega) fun e => he (by rw [e])

/-- Where a giant step meets a baby step, the logarithm is their difference. -/
theorem meets {P Q b x : Int} (hP : 2 ≤ P) (hQ : 1 ≤ Q) (hb : elB P Q b = true) (hx : elB P Q x = true) {k j : Nat} (h : pw b (1024 * k) P = x * pw b j P % P) :
    pw b (((k : Int) * 1024 - j) % Q).toNat P = x := by
  have hbQ := (el_iff.1 hb).2.2
  obtain ⟨x0, x1, _⟩ := el_iff.1 hx
  -- b^(1024 k) * b^(Q-j mod ..) = x
  obtain ⟨t, ht⟩ : ∃ t : Nat, Q * (j : Int) - j = t := ⟨(Q * (j : Int) - j).toNat, by
    have : 1 * (j : Int) ≤ Q * j := Int.mul_le_mul_of_nonneg_right hQ (by omega)
    omega⟩
  have e1 : pw b (1024 * k + t) P = x := by
    rw [pw_add, h, emul (emod_self (x * pw b j P) P) (rfl : pw b t P % P = pw b t P % P), Int.mul_assoc, ← emul (rfl : x % P = x % P) (emod_self (pw b j P * pw b t P) P), ← pw_add]
    have : j + t = Q.toNat * j := by
      obtain ⟨q, rfl⟩ : ∃ q : Nat, Q = q := ⟨Q.toNat, by omega⟩
      rw [Int.toNat_natCast]
      have : ((j + t : Nat) : Int) = ((q * j : Nat) : Int) := by rw [Int.natCast_add, Int.natCast_mul]; omega
      exact_mod_cast this
    rw [this, pw_mul, hbQ, pw_one_base, Int.emod_eq_of_lt (show (0 : Int) ≤ 1 by omega) (by omega), Int.mul_one]
    exact Int.emod_eq_of_lt (by omega) x1
  rw [← e1, ← pw_mod hP hb (1024 * k + t)]
  congr 1
  obtain ⟨u, h1, e2⟩ := toNat_mod (x := (k : Int) * 1024 - j) hQ
  rw [h1]
  refine nat_of_int (Q := Q) (by omega) ?_
  rw [e2, show ((1024 * k + t : Nat) : Int) = ((k : Int) * 1024 - j) + Q * j by rw [Int.natCast_add, ← ht, Int.natCast_mul]; omega, Int.add_mul_emod_self_left]
end Go.Proofs.YtdbhleinhpiohaaGreatDoor
namespace Go.Proofs.YtdbhleinhpiohaaGreatDoor
open Go.RowKit Go.Sp
set_option maxHeartbeats 1000000

end Go.Proofs.YtdbhleinhpiohaaGreatDoor
namespace Go.Proofs.YtdbhleinhpiohaaGreatDoor
open Go.RowKit Go.Sp
set_option maxHeartbeats 1000000
set_option maxRecDepth 8000

def isR (x e f want : Int) : Bool := if (f != 0) = true then e == f && x == 0 else e == 0 && x == want

theorem isR_bad {x f want : Int} (h : (f == 0) = false) (hx : x = 0) : isR x f f want = true := by
  have : f ≠ 0 := by simpa using h
  simp [isR, this, hx]
theorem isR_good {x f want : Int} (h : (f == 0) = true) (hx : x = want) : isR x f 0 want = true := by
  have : f = 0 := by simpa using h
  simp [isR, this, hx]

theorem chk_all {P Q G : Int} {xs : List Int} (h : (chkI P Q G xs == 0) = true) : gvB P Q G = true ∧ ∀ x ∈ xs, elB P Q x = true := chk_cases (by simpa using h)

theorem keepG {w0 w w' : World} {b : Nat} {P Q G : Int} (hU : Up w w')
    (h : w.cell? ⟨b, 0, none⟩ = some (.int .i64 P) ∧ w.cell? ⟨b, 1, none⟩ = some (.int .i64 Q) ∧ w.cell? ⟨b, 2, none⟩ = some (.int .i64 G) ∧ Hid (Up w0 w)) :
    w'.cell? ⟨b, 0, none⟩ = some (.int .i64 P) ∧ w'.cell? ⟨b, 1, none⟩ = some (.int .i64 Q) ∧ w'.cell? ⟨b, 2, none⟩ = some (.int .i64 G) ∧ Hid (Up w0 w') := by
  obtain ⟨a, b', c⟩ := GrpAt.up ⟨h.1, h.2.1, h.2.2.1⟩ hU
  exact ⟨a, b', c, hid (h.2.2.2.out.trans hU)⟩

theorem tabOf {w1 w : World} {p q r : Prop} (h : Hid (Tab w1)) (hs : p ∧ q ∧ r ∧ Hid (Up w1 w)) : Tab w := h.out.up hs.2.2.2.out

theorem upOf {w1 w : World} {p q r : Prop} (hs : p ∧ q ∧ r ∧ Hid (Up w1 w)) : Up w1 w := hs.2.2.2.out

end Go.Proofs.YtdbhleinhpiohaaGreatDoor
