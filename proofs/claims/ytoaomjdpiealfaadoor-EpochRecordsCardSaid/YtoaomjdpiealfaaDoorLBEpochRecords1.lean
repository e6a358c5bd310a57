/- Valid, Issues, Accepts, Find and Item return what is specified: specielaw30.EpochRecords returns true. For every input; the tables of packages math/bits, prime and digest as the program's text lays them. EpochRecords: the walk. -/
import Derived.Test.YtoaomjdpiealfaaDoorMB22
import Derived.Test.YtoaomjdpiealfaaDoorMB21
import Derived.Test.YtoaomjdpiealfaaDoorMB19
import Derived.Lay
namespace Go.Proofs.YtoaomjdpiealfaaDoor
open Go.RowKit Go.Sp
set_option maxHeartbeats 4000000
set_option maxRecDepth 20000

theorem EpochRecords_walk (P Q G A B C : Int) (v : Value) (l : List Rec) (now bank number denom : Int) (w : World) (hP : -9223372036854775808 ≤ P) (hQ : Q ≤ 9223372036854775807) (hT : Tab w) (hS : TabS w) (hv : RecsAt w v l) :
    Calls Tryd.prog 3 #[bas P Q G A B C, v, .int .i64 now, .int .i64 bank, .int .i64 number, .int .i64 denom] w fun e w' => e = .returned (.bool true) ∧ Up w w' := by
  have HT := hid hT
  have HS := hid hS
  have HV := hid hv
  have N1 := hid (fun (x : Rec) w' (hU : Up w w') => eValid_any P Q G A B C x.kd x.nr x.co x.iv x.ni x.ka x.kb x.kc x.st x.un x.ac w' hP hQ (hT.up hU))
  have N2 := hid (fun (x : Rec) w' => rRecValid_any P Q G A B C x.kd x.nr x.co x.iv x.ni x.ka x.kb x.kc x.st x.un x.ac w' hP hQ)
  have F1 := hid (fun w' (hU : Up w w') => eFind_any v l bank number denom w' (hv.up hU))
  have F2 := hid (fun w' (hU : Up w w') => rFind_any v l bank number denom w' (hv.up hU))
  generalize idxK (trB bank number denom) l 0 = K at *
  have ek : (K == K) = true := by simp
  obtain ⟨hlen, a, cap, rfl, _⟩ := hv
  obtain ⟨m, hm⟩ : ∃ m, l.length = m := ⟨_, rfl⟩
  have HN := hid hm
  rw [hm] at HV hlen F1 F2 ⊢
  obtain ⟨o, ho⟩ : ∃ o, w.heap.size = o := ⟨_, rfl⟩
  have HO := hid ho
  clear hT hS hm ho
  go_enter Tryd.func3, Tryd.ntmps3
  go_wp2_with fail
  refine (awake30 _ (HT.out.up ((Up.refl w).alloc _)) (HS.out.up ((Up.refl w).alloc _))).mono ?_
  rintro e w1 ⟨rfl, hU1⟩
  have HA1 := hid (((nums_six (w := w) (t := 25) HO.out)).up hU1)
  have HU1 := hid (((Up.refl w).alloc _).trans hU1)
  clear hU1
  rw [HO.out]
  obtain ⟨⟨c0, c1, c2⟩, c3, c4, c5⟩ := HA1.out
  by_cases hl50 : m > 50
  case pos =>
    have d1 : decide ((m : Int) > 50) = true := by simp; omega
    clear hl50
    go_wp2
    go_ret
    exact ⟨rfl, HU1.out⟩
  have d1 : decide ((m : Int) > 50) = false := by simp; omega
  go_wp2_with fail
  go_loopw [22] (fun vi wr => ∃ i : Nat, i ≤ m ∧ vi = .int .i64 i ∧ Hid (Up w wr) ∧ Hid (BasAt wr o P Q G A B C)) (fun vi _ => m - (intOf vi).toNat)
  case atStart => exact ⟨0, by omega, rfl, HU1, HA1⟩
  case round =>
    clear HU1 HA1 d1 c0 c1 c2 c3 c4 c5
    obtain ⟨i, hi, rfl, HU, HA⟩ := hrel
    by_cases hl : i < m
    · have hlx : i < l.length := by rw [HN.out]; exact hl
      obtain ⟨g, off, rfl, hx2⟩ := recs_cell HV.out HU.out hlx
      have V1 := hid (fun w' hU => N1.out (l.getD i rec0) w' hU)
      have V2 := hid (fun w' => N2.out (l.getD i rec0) w')
      clear hlx
      generalize l.getD i rec0 = x at *
      obtain ⟨q0, q1, q2, q3, q4, q5, q6, q7, q8, q9, q10⟩ := hx2
      obtain ⟨kd, nr, co, iv, ni, ka, kb, kc, st, un, ac⟩ := x
      dsimp only at q0 q1 q2 q3 q4 q5 q6 q7 q8 q9 q10 V1 V2
      have I1 := hid (fun w' => eIssues_any kd nr co iv ni ka kb kc st un ac now w')
      have I2 := hid (fun w' => rIssues_any kd nr co iv ni ka kb kc st un ac now w')
      have A1 := hid (fun w' => eAccepts_any kd nr co iv ni ka kb kc st un ac now w')
      have A2 := hid (fun w' => rAccepts_any kd nr co iv ni ka kb kc st un ac now w')
      have T1 := hid (fun w' => eItem_ok kd nr co iv ni ka kb kc st un ac w')
      have T2 := hid (fun w' => rItem_ok kd nr co iv ni ka kb kc st un ac w')
      have SM := hid (fun v1 v2 w' h1 h2 => same_ints [kd, nr, co, iv, ni, ka, kb, kc, st, un, ac] v1 v2 w' h1 h2 (by simp))
      generalize recB P Q G A B C kd nr co iv ni ka kb kc st un ac = b1 at *
      generalize (decide (st ≤ now) && decide (now < un)) = b2 at *
      generalize (decide (st ≤ now) && decide (now < ac)) = b3 at *
      have e1 : (b1 != b1) = false := by simp
      have e2 : (b2 != b2) = false := by simp
      have e3 : (b3 != b3) = false := by simp
      generalize [kd, nr, co, iv, ni, ka, kb, kc, st, un, ac] = xs at *
      have hgl : g < wr.heap.size := cell_lt q0
      unfold epo epoA at V1 V2 I1 I2 A1 A2 T1 T2
      go_wp2_with fail
      obtain ⟨ob, hob⟩ : ∃ ob, wr.heap.size = ob := ⟨_, rfl⟩
      have HX0 := (Blk.new (w := wr) (g := ob) (t := 31) (cs := #[.int .i64 kd, .int .i64 nr, .int .i64 co, .int .i64 iv, .int .i64 ni, .int .i64 ka, .int .i64 kb, .int .i64 kc, .int .i64 st, .int .i64 un, .int .i64 ac]) hob rfl)
      have HU0 := hid (HU.out.alloc (.cells #[.int .i64 kd, .int .i64 nr, .int .i64 co, .int .i64 iv, .int .i64 ni, .int .i64 ka, .int .i64 kb, .int .i64 kc, .int .i64 st, .int .i64 un, .int .i64 ac] 31))
      have HA0 := hid (HA.out.up ((Up.refl wr).alloc (.cells #[.int .i64 kd, .int .i64 nr, .int .i64 co, .int .i64 iv, .int .i64 ni, .int .i64 ka, .int .i64 kb, .int .i64 kc, .int .i64 st, .int .i64 un, .int .i64 ac] 31)))
      rw [hob]
      clear hob HU HA q0 q1 q2 q3 q4 q5 q6 q7 q8 q9 q10 hgl
      generalize wr.alloc (.cells #[.int .i64 kd, .int .i64 nr, .int .i64 co, .int .i64 iv, .int .i64 ni, .int .i64 ka, .int .i64 kb, .int .i64 kc, .int .i64 st, .int .i64 un, .int .i64 ac] 31) = w0 at *
      obtain ⟨⟨k0, k1, k2⟩, k3, k4, k5⟩ := HA0.out
      have r0 := HX0.val (i := 0) rfl
      have r1 := HX0.val (i := 1) rfl
      have r2 := HX0.val (i := 2) rfl
      have r3 := HX0.val (i := 3) rfl
      have r4 := HX0.val (i := 4) rfl
      have r5 := HX0.val (i := 5) rfl
      have r6 := HX0.val (i := 6) rfl
      have r7 := HX0.val (i := 7) rfl
      have r8 := HX0.val (i := 8) rfl
      have r9 := HX0.val (i := 9) rfl
      have r10 := HX0.val (i := 10) rfl
      have HK : Hid (∀ u, Up w0 u → u.cell? ⟨o, 0, none⟩ = some (.int .i64 P) ∧ u.cell? ⟨o, 1, none⟩ = some (.int .i64 Q) ∧ u.cell? ⟨o, 2, none⟩ = some (.int .i64 G) ∧ u.cell? ⟨o, 3, none⟩ = some (.int .i64 A) ∧ u.cell? ⟨o, 4, none⟩ = some (.int .i64 B) ∧ u.cell? ⟨o, 5, none⟩ = some (.int .i64 C) ∧ u.cell? ⟨ob, 0, none⟩ = some (.int .i64 kd) ∧ u.cell? ⟨ob, 1, none⟩ = some (.int .i64 nr) ∧ u.cell? ⟨ob, 2, none⟩ = some (.int .i64 co) ∧ u.cell? ⟨ob, 3, none⟩ = some (.int .i64 iv) ∧ u.cell? ⟨ob, 4, none⟩ = some (.int .i64 ni) ∧ u.cell? ⟨ob, 5, none⟩ = some (.int .i64 ka) ∧ u.cell? ⟨ob, 6, none⟩ = some (.int .i64 kb) ∧ u.cell? ⟨ob, 7, none⟩ = some (.int .i64 kc) ∧ u.cell? ⟨ob, 8, none⟩ = some (.int .i64 st) ∧ u.cell? ⟨ob, 9, none⟩ = some (.int .i64 un) ∧ u.cell? ⟨ob, 10, none⟩ = some (.int .i64 ac)) := hid fun u hu => ⟨cellUp hu k0, cellUp hu k1, cellUp hu k2, cellUp hu k3, cellUp hu k4, cellUp hu k5, cellUp hu r0, cellUp hu r1, cellUp hu r2, cellUp hu r3, cellUp hu r4, cellUp hu r5, cellUp hu r6, cellUp hu r7, cellUp hu r8, cellUp hu r9, cellUp hu r10⟩
      clear k0 k1 k2 k3 k4 k5 r0 r1 r2 r3 r4 r5 r6 r7 r8 r9 r10 HX0
      refine region_E (fun u => Up w0 u) 33 (by kernel_rfl) (Up.refl w0).drew fun hS => ?_
      generalize w0.drew = u0 at *
      refine anyE_takeA (i := 0) (v := ?_) 26 rfl rfl (by kernel_rfl) (by decide) (fun _ _ _ h => h) (by kernel_rfl) (by kernel_rfl) (.inl ⟨by rfl, fun u hu => ?_⟩) hS ?_
      rotate_left
      · (obtain ⟨z0, z1, z2, z3, z4, z5, z6, z7, z8, z9, z10, z11, z12, z13, z14, z15, z16⟩ := HK.out _ hu; go_simp; first | done | with_reducible rfl)
      try simp only [Act.put, List.setIfInBounds_toArray, List.set_cons_zero, List.set_cons_succ]
      refine anyE_takeA (i := 1) (v := ?_) 27 rfl rfl (by kernel_rfl) (by decide) (fun _ _ _ h => h) (by kernel_rfl) (by kernel_rfl) (.inl ⟨by rfl, fun u hu => ?_⟩) hS ?_
      rotate_left
      · (obtain ⟨z0, z1, z2, z3, z4, z5, z6, z7, z8, z9, z10, z11, z12, z13, z14, z15, z16⟩ := HK.out _ hu; go_simp; first | done | with_reducible rfl)
      try simp only [Act.put, List.setIfInBounds_toArray, List.set_cons_zero, List.set_cons_succ]
      refine anyE_takeA (i := 3) (v := ?_) 29 rfl rfl (by kernel_rfl) (by decide) (fun _ _ _ h => h) (by kernel_rfl) (by kernel_rfl) (.inl ⟨by rfl, fun u hu => ?_⟩) hS ?_
      rotate_left
      · (obtain ⟨z0, z1, z2, z3, z4, z5, z6, z7, z8, z9, z10, z11, z12, z13, z14, z15, z16⟩ := HK.out _ hu; go_simp; first | done | with_reducible rfl)
      try simp only [Act.put, List.setIfInBounds_toArray, List.set_cons_zero, List.set_cons_succ]
      refine anyE_takeA (i := 4) (v := ?_) 30 rfl rfl (by kernel_rfl) (by decide) (fun _ _ _ h => h) (by kernel_rfl) (by kernel_rfl) (.inl ⟨by rfl, fun u hu => ?_⟩) hS ?_
      rotate_left
      · (obtain ⟨z0, z1, z2, z3, z4, z5, z6, z7, z8, z9, z10, z11, z12, z13, z14, z15, z16⟩ := HK.out _ hu; go_simp; first | done | with_reducible rfl)
      try simp only [Act.put, List.setIfInBounds_toArray, List.set_cons_zero, List.set_cons_succ]
      refine anyE_oneG (i := 2) rfl (by kernel_rfl) (by rfl) (fun K hK => ?_)
      go_simp
      refine (V1.out _ (HU0.out.trans hS)).mono ?_
      rintro e u1 ⟨rfl, hup⟩
      try dsimp only
      have hS' := hS.trans hup
      refine hK.out _ _ (.inr hS') ?_
      clear hK hS
      have hS := hS'
      clear hS'
      try simp only [Act.put, List.setIfInBounds_toArray, List.set_cons_zero, List.set_cons_succ]
      clear hup
      refine anyE_oneG (i := 5) rfl (by kernel_rfl) (by rfl) (fun K hK => ?_)
      go_simp
      refine (V2.out _).mono ?_
      rintro e u1 ⟨rfl, hup⟩
      try dsimp only
      have hS' := hS.trans hup
      refine hK.out _ _ (.inr hS') ?_
      clear hK hS
      have hS := hS'
      clear hS'
      try simp only [Act.put, List.setIfInBounds_toArray, List.set_cons_zero, List.set_cons_succ]
      clear hup
      refine anyE_takeA (i := 6) (v := ?_) 32 rfl rfl (by kernel_rfl) (by decide) (fun _ _ _ h => h) (by kernel_rfl) (by kernel_rfl) (.inl ⟨by rfl, fun u hu => ?_⟩) hS ?_
      rotate_left
      · (go_simp; first | done | with_reducible rfl)
      try simp only [Act.put, List.setIfInBounds_toArray, List.set_cons_zero, List.set_cons_succ]
      refine anyE_takeA (i := 7) (v := ?_) 33 rfl rfl (by kernel_rfl) (by decide) (fun _ _ _ h => h) (by kernel_rfl) (by kernel_rfl) (.inl ⟨by rfl, fun u hu => ?_⟩) hS ?_
      rotate_left
      · (go_simp; first | done | with_reducible rfl)
      try simp only [Act.put, List.setIfInBounds_toArray, List.set_cons_zero, List.set_cons_succ]
      refine anyE_takeA (i := 8) (v := ?_) 34 rfl rfl (by kernel_rfl) (by decide) (fun _ _ _ h => h) (by kernel_rfl) (by kernel_rfl) (.inl ⟨by rfl, fun u hu => ?_⟩) hS ?_
      rotate_left
      · (obtain ⟨z0, z1, z2, z3, z4, z5, z6, z7, z8, z9, z10, z11, z12, z13, z14, z15, z16⟩ := HK.out _ hu; go_simp; first | done | with_reducible rfl)
      try simp only [Act.put, List.setIfInBounds_toArray, List.set_cons_zero, List.set_cons_succ]
      refine anyE_takeA (i := 9) (v := ?_) 35 rfl rfl (by kernel_rfl) (by decide) (fun _ _ _ h => h) (by kernel_rfl) (by kernel_rfl) (.inl ⟨by rfl, fun u hu => ?_⟩) hS ?_
      rotate_left
      · (obtain ⟨z0, z1, z2, z3, z4, z5, z6, z7, z8, z9, z10, z11, z12, z13, z14, z15, z16⟩ := HK.out _ hu; go_simp; first | done | with_reducible rfl)
      try simp only [Act.put, List.setIfInBounds_toArray, List.set_cons_zero, List.set_cons_succ]
      refine anyE_takeA (i := 11) (v := ?_) 37 rfl rfl (by kernel_rfl) (by decide) (fun _ _ _ h => h) (by kernel_rfl) (by kernel_rfl) (.inl ⟨by rfl, fun u hu => ?_⟩) hS ?_
      rotate_left
      · (obtain ⟨z0, z1, z2, z3, z4, z5, z6, z7, z8, z9, z10, z11, z12, z13, z14, z15, z16⟩ := HK.out _ hu; go_simp; first | done | with_reducible rfl)
      try simp only [Act.put, List.setIfInBounds_toArray, List.set_cons_zero, List.set_cons_succ]
      refine anyE_takeA (i := 12) (v := ?_) 38 rfl rfl (by kernel_rfl) (by decide) (fun _ _ _ h => h) (by kernel_rfl) (by kernel_rfl) (.inl ⟨by rfl, fun u hu => ?_⟩) hS ?_
      rotate_left
      · (obtain ⟨z0, z1, z2, z3, z4, z5, z6, z7, z8, z9, z10, z11, z12, z13, z14, z15, z16⟩ := HK.out _ hu; go_simp; first | done | with_reducible rfl)
      try simp only [Act.put, List.setIfInBounds_toArray, List.set_cons_zero, List.set_cons_succ]
      refine anyE_oneG (i := 10) rfl (by kernel_rfl) (by rfl) (fun K hK => ?_)
      go_simp
      refine (I1.out _).mono ?_
      rintro e u1 ⟨rfl, hup⟩
      try dsimp only
      have hS' := hS.trans hup
      refine hK.out _ _ (.inr hS') ?_
      clear hK hS
      have hS := hS'
      clear hS'
      try simp only [Act.put, List.setIfInBounds_toArray, List.set_cons_zero, List.set_cons_succ]
      clear hup
      refine anyE_oneG (i := 13) rfl (by kernel_rfl) (by rfl) (fun K hK => ?_)
      go_simp
      refine (I2.out _).mono ?_
      rintro e u1 ⟨rfl, hup⟩
      try dsimp only
      have hS' := hS.trans hup
      refine hK.out _ _ (.inr hS') ?_
      clear hK hS
      have hS := hS'
      clear hS'
      try simp only [Act.put, List.setIfInBounds_toArray, List.set_cons_zero, List.set_cons_succ]
      clear hup
      refine anyE_takeA (i := 14) (v := ?_) 40 rfl rfl (by kernel_rfl) (by decide) (fun _ _ _ h => h) (by kernel_rfl) (by kernel_rfl) (.inl ⟨by rfl, fun u hu => ?_⟩) hS ?_
      rotate_left
      · (go_simp; first | done | with_reducible rfl)
      try simp only [Act.put, List.setIfInBounds_toArray, List.set_cons_zero, List.set_cons_succ]
      refine anyE_takeA (i := 15) (v := ?_) 41 rfl rfl (by kernel_rfl) (by decide) (fun _ _ _ h => h) (by kernel_rfl) (by kernel_rfl) (.inl ⟨by rfl, fun u hu => ?_⟩) hS ?_
      rotate_left
      · (go_simp; first | done | with_reducible rfl)
      try simp only [Act.put, List.setIfInBounds_toArray, List.set_cons_zero, List.set_cons_succ]
      refine anyE_takeA (i := 16) (v := ?_) 42 rfl rfl (by kernel_rfl) (by decide) (fun _ _ _ h => h) (by kernel_rfl) (by kernel_rfl) (.inl ⟨by rfl, fun u hu => ?_⟩) hS ?_
      rotate_left
      · (go_simp; first | done | with_reducible rfl)
      try simp only [Act.put, List.setIfInBounds_toArray, List.set_cons_zero, List.set_cons_succ]
      refine anyE_takeA (i := 17) (v := ?_) 43 rfl rfl (by kernel_rfl) (by decide) (fun _ _ _ h => h) (by kernel_rfl) (by kernel_rfl) (.inl ⟨by rfl, fun u hu => ?_⟩) hS ?_
      rotate_left
      · (obtain ⟨z0, z1, z2, z3, z4, z5, z6, z7, z8, z9, z10, z11, z12, z13, z14, z15, z16⟩ := HK.out _ hu; go_simp; first | done | with_reducible rfl)
      try simp only [Act.put, List.setIfInBounds_toArray, List.set_cons_zero, List.set_cons_succ]
      refine anyE_takeA (i := 18) (v := ?_) 44 rfl rfl (by kernel_rfl) (by decide) (fun _ _ _ h => h) (by kernel_rfl) (by kernel_rfl) (.inl ⟨by rfl, fun u hu => ?_⟩) hS ?_
      rotate_left
      · (obtain ⟨z0, z1, z2, z3, z4, z5, z6, z7, z8, z9, z10, z11, z12, z13, z14, z15, z16⟩ := HK.out _ hu; go_simp; first | done | with_reducible rfl)
      try simp only [Act.put, List.setIfInBounds_toArray, List.set_cons_zero, List.set_cons_succ]
      refine anyE_takeA (i := 20) (v := ?_) 46 rfl rfl (by kernel_rfl) (by decide) (fun _ _ _ h => h) (by kernel_rfl) (by kernel_rfl) (.inl ⟨by rfl, fun u hu => ?_⟩) hS ?_
      rotate_left
      · (obtain ⟨z0, z1, z2, z3, z4, z5, z6, z7, z8, z9, z10, z11, z12, z13, z14, z15, z16⟩ := HK.out _ hu; go_simp; first | done | with_reducible rfl)
      try simp only [Act.put, List.setIfInBounds_toArray, List.set_cons_zero, List.set_cons_succ]
      refine anyE_takeA (i := 21) (v := ?_) 47 rfl rfl (by kernel_rfl) (by decide) (fun _ _ _ h => h) (by kernel_rfl) (by kernel_rfl) (.inl ⟨by rfl, fun u hu => ?_⟩) hS ?_
      rotate_left
      · (obtain ⟨z0, z1, z2, z3, z4, z5, z6, z7, z8, z9, z10, z11, z12, z13, z14, z15, z16⟩ := HK.out _ hu; go_simp; first | done | with_reducible rfl)
      try simp only [Act.put, List.setIfInBounds_toArray, List.set_cons_zero, List.set_cons_succ]
      refine anyE_oneG (i := 19) rfl (by kernel_rfl) (by rfl) (fun K hK => ?_)
      go_simp
      refine (A1.out _).mono ?_
      rintro e u1 ⟨rfl, hup⟩
      try dsimp only
      have hS' := hS.trans hup
      refine hK.out _ _ (.inr hS') ?_
      clear hK hS
      have hS := hS'
      clear hS'
      try simp only [Act.put, List.setIfInBounds_toArray, List.set_cons_zero, List.set_cons_succ]
      clear hup
      refine anyE_oneG (i := 22) rfl (by kernel_rfl) (by rfl) (fun K hK => ?_)
      go_simp
      refine (A2.out _).mono ?_
      rintro e u1 ⟨rfl, hup⟩
      try dsimp only
      have hS' := hS.trans hup
      refine hK.out _ _ (.inr hS') ?_
      clear hK hS
      have hS := hS'
      clear hS'
      try simp only [Act.put, List.setIfInBounds_toArray, List.set_cons_zero, List.set_cons_succ]
      clear hup
      refine anyE_takeA (i := 23) (v := ?_) 49 rfl rfl (by kernel_rfl) (by decide) (fun _ _ _ h => h) (by kernel_rfl) (by kernel_rfl) (.inl ⟨by rfl, fun u hu => ?_⟩) hS ?_
      rotate_left
      · (go_simp; first | done | with_reducible rfl)
      try simp only [Act.put, List.setIfInBounds_toArray, List.set_cons_zero, List.set_cons_succ]
      refine anyE_takeA (i := 24) (v := ?_) 50 rfl rfl (by kernel_rfl) (by decide) (fun _ _ _ h => h) (by kernel_rfl) (by kernel_rfl) (.inl ⟨by rfl, fun u hu => ?_⟩) hS ?_
      rotate_left
      · (go_simp; first | done | with_reducible rfl)
      try simp only [Act.put, List.setIfInBounds_toArray, List.set_cons_zero, List.set_cons_succ]
      refine anyE_takeA (i := 25) (v := ?_) 51 rfl rfl (by kernel_rfl) (by decide) (fun _ _ _ h => h) (by kernel_rfl) (by kernel_rfl) (.inl ⟨by rfl, fun u hu => ?_⟩) hS ?_
      rotate_left
      · (go_simp; first | done | with_reducible rfl)
      try simp only [Act.put, List.setIfInBounds_toArray, List.set_cons_zero, List.set_cons_succ]
      refine anyE_takeA (i := 26) (v := ?_) 52 rfl rfl (by kernel_rfl) (by decide) (fun _ _ _ h => h) (by kernel_rfl) (by kernel_rfl) (.inl ⟨by rfl, fun u hu => ?_⟩) hS ?_
      rotate_left
      · (obtain ⟨z0, z1, z2, z3, z4, z5, z6, z7, z8, z9, z10, z11, z12, z13, z14, z15, z16⟩ := HK.out _ hu; go_simp; first | done | with_reducible rfl)
      try simp only [Act.put, List.setIfInBounds_toArray, List.set_cons_zero, List.set_cons_succ]
      refine anyE_takeA (i := 28) (v := ?_) 54 rfl rfl (by kernel_rfl) (by decide) (fun _ _ _ h => h) (by kernel_rfl) (by kernel_rfl) (.inl ⟨by rfl, fun u hu => ?_⟩) hS ?_
      rotate_left
      · (obtain ⟨z0, z1, z2, z3, z4, z5, z6, z7, z8, z9, z10, z11, z12, z13, z14, z15, z16⟩ := HK.out _ hu; go_simp; first | done | with_reducible rfl)
      try simp only [Act.put, List.setIfInBounds_toArray, List.set_cons_zero, List.set_cons_succ]
      refine anyE_oneG (i := 27) rfl (by kernel_rfl) (by rfl) (fun K hK => ?_)
      go_simp
      refine (T1.out _).mono ?_
      rintro e u1 ⟨l1, rfl, ⟨base1, hq1, _⟩, hup⟩
      try dsimp only
      have hS' := hS.trans hup
      refine hK.out _ _ (.inr hS') ?_
      clear hK hS
      have hS := hS'
      clear hS'
      try simp only [Act.put, List.setIfInBounds_toArray, List.set_cons_zero, List.set_cons_succ]
      have HQ1 := hid (OwnQ.ints hq1)
      clear hup hq1
      refine anyE_oneG (i := 29) rfl (by kernel_rfl) (by rfl) (fun K hK => ?_)
      go_simp
      refine (T2.out _).mono ?_
      rintro e u1 ⟨l2, rfl, ⟨base2, hq2, _⟩, hup⟩
      try dsimp only
      have hS' := hS.trans hup
      refine hK.out _ _ (.inr hS') ?_
      clear hK hS
      have hS := hS'
      clear hS'
      try simp only [Act.put, List.setIfInBounds_toArray, List.set_cons_zero, List.set_cons_succ]
      have HQ2 := hid (OwnQ.ints hq2)
      have HQ1b := hid (HQ1.out.up hup)
      clear hup hq2 HQ1
      refine anyE_oneG (i := 30) rfl (by kernel_rfl) (by rfl) (fun K hK => ?_)
      go_simp
      refine (SM.out _ _ _ HQ1b.out HQ2.out).mono ?_
      rintro e u1 ⟨rfl, hup⟩
      try dsimp only
      have hS' := hS.trans hup
      refine hK.out _ _ (.inr hS') ?_
      clear hK hS
      have hS := hS'
      clear hS'
      try simp only [Act.put, List.setIfInBounds_toArray, List.set_cons_zero, List.set_cons_succ]
      clear hup HQ1b HQ2
      refine anyE_takeA (i := 31) (v := ?_) 57 rfl rfl (by kernel_rfl) (by decide) (fun _ _ _ h => h) (by kernel_rfl) (by kernel_rfl) (.inl ⟨by rfl, fun u hu => ?_⟩) hS ?_
      rotate_left
      · (go_simp; first | done | with_reducible rfl)
      try simp only [Act.put, List.setIfInBounds_toArray, List.set_cons_zero, List.set_cons_succ]
      refine anyE_takeA (i := 32) (v := ?_) 58 rfl rfl (by kernel_rfl) (by decide) (fun _ _ _ h => h) (by kernel_rfl) (by kernel_rfl) (.inl ⟨by rfl, fun u hu => ?_⟩) hS ?_
      rotate_left
      · (go_simp; first | done | with_reducible rfl)
      try simp only [Act.put, List.setIfInBounds_toArray, List.set_cons_zero, List.set_cons_succ]
      refine anyE_done (by kernel_rfl) ?_ _
      have HA9 := hid (HA0.out.up hS)
      have HU9 := hid (HU0.out.trans hS)
      clear hS HK HA0 HU0
      go_wp2_with fail
      go_roundw
      case rel => exact ⟨i + 1, by omega, by go_num, HU9, HA9⟩
      case measure => simp [intOf]; omega
    · obtain rfl : i = m := by omega
      have q := HA.out
      go_wp2_with fail
      refine (F1.out _ HU.out).mono ?_
      rintro e w5 ⟨rfl, hU5⟩
      have HU5 := hid (HU.out.trans hU5)
      clear hU5
      go_wp2_with fail
      refine (F2.out _ HU5.out).mono ?_
      rintro e w6 ⟨rfl, hU6⟩
      have HU6 := hid (HU5.out.trans hU6)
      clear hU6
      go_wp2
      go_ret
      exact ⟨rfl, HU6.out⟩
end Go.Proofs.YtoaomjdpiealfaaDoor
namespace Go.Proofs.YtoaomjdpiealfaaDoor.lawEpochRecords
open Go.Proofs.YtoaomjdpiealfaaDoor Go.ChangeShapes Go.WideShapes Go.ChangeAt Go.RowKit Go.Sp

set_option maxRecDepth 100000 in
theorem contract (H : Type) (enc : TypeId × Value → H) (W : World) (base : Nat) (args : Array Value) (ds gs : List (DataW H)) (before : List MemPlace)
    (hval : ∀ (j : Nat) t v, Tryd.f3.params[j]? = some t → args[j]? = some v → Value.okWide Tryd.prog W .any base t v)
    (hW : DataW.Whole enc Tryd.prog Tryd.f3.params.toList Rows.epochRecordsSpec.vars false W args.toList ds gs before) (hL : laidMetH Tryd.prog Rows.epochRecordsRow.laid W) :
    Calls Tryd.prog 3 args W fun e W' => ∃ v, e = .returned v ∧ Rows.epochRecordsSpec.post enc Tryd.prog Tryd.f3 false true false false W args v W' := by
  have hT := tab_of_four hL
  have hS := tabS_of_four hL
  have hW' := hW
  obtain ⟨p, q, hA0, hV, rfl, hfz, hnd⟩ := hW
  have hA : DataW.TrodAll enc Tryd.prog W 0 (fun _ => true) true Tryd.f3.params.toList args.toList ds p := hA0
  rw [Tryd.params3] at hA hval
  obtain ⟨v0, vs0, d0, ds0, p0, q0, hargs, rfl, rfl, h0, r0⟩ := trodAll_cons hA
  obtain ⟨v1, vs1, d1, ds1, p1, q1, rfl, rfl, rfl, h1, r1⟩ := trodAll_cons r0
  obtain ⟨v2, vs2, d2, ds2, p2, q2, rfl, rfl, rfl, h2, r2⟩ := trodAll_cons r1
  obtain ⟨v3, vs3, d3, ds3, p3, q3, rfl, rfl, rfl, h3, r3⟩ := trodAll_cons r2
  obtain ⟨v4, vs4, d4, ds4, p4, q4, rfl, rfl, rfl, h4, r4⟩ := trodAll_cons r3
  obtain ⟨v5, vs5, d5, ds5, p5, q5, rfl, rfl, rfl, h5, r5⟩ := trodAll_cons r4
  obtain ⟨rfl, rfl, rfl⟩ := trodAll_nil r5
  obtain rfl : args = #[v0, v1, v2, v3, v4, v5] := by cases args; simp_all
  obtain ⟨rfl, rfl⟩ := trodVars_none hV
  obtain ⟨P0, Q0, G0, A0, B0, C0, rfl, bP0, bQ0, bG0, bA0, bB0, bC0⟩ := open_bases (hval 0 25 v0 rfl rfl) h0
  obtain ⟨xs1, hs1, hn1, bs1⟩ := open_recs (hval 1 26 v1 rfl rfl) h1
  obtain ⟨x2, rfl, bx2, by2⟩ := open_i64 (hval 2 3 v2 rfl rfl) h2
  obtain ⟨x3, rfl, bx3, by3⟩ := open_i64 (hval 3 3 v3 rfl rfl) h3
  obtain ⟨x4, rfl, bx4, by4⟩ := open_i64 (hval 4 3 v4 rfl rfl) h4
  obtain ⟨x5, rfl, bx5, by5⟩ := open_i64 (hval 5 3 v5 rfl rfl) h5
  refine (EpochRecords_walk P0 Q0 G0 A0 B0 C0 v1 xs1 x2 x3 x4 x5 W bP0.1 bQ0.2 hT hS hs1).mono fun e W' ⟨he, hU⟩ => ?_
  exact ⟨_, he, law_shut Tryd.underlying4 (by kernel_rfl) rfl rfl laidOut (by kernel_rfl) hW' hU⟩

theorem laid_met (os : Os) : laidMet Tryd.prog Rows.epochRecordsRow.laid ((World.laidAll Tryd.prog os laidFour).forCall (fun _ _ => 0) ⟨#[], #[.agg #[.int .i64 0, .int .i64 0, .int .i64 0, .int .i64 0, .int .i64 0, .int .i64 0], .slice none 0 0, .int .i64 0, .int .i64 0, .int .i64 0, .int .i64 0], []⟩).memory :=
  laidMet_laidAll _ (by kernel_rfl) (by kernel_rfl)
theorem reads (os : Os) {H : Type} (enc : TypeId × Value → H) : ∃ places, DataW.whole enc Tryd.prog ((World.laidAll Tryd.prog os laidFour).forCall (fun _ _ => 0) ⟨#[], #[.agg #[.int .i64 0, .int .i64 0, .int .i64 0, .int .i64 0, .int .i64 0, .int .i64 0], .slice none 0 0, .int .i64 0, .int .i64 0, .int .i64 0, .int .i64 0], []⟩).memory Tryd.f3.params.toList Rows.epochRecordsSpec.vars false (#[.agg #[.int .i64 0, .int .i64 0, .int .i64 0, .int .i64 0, .int .i64 0, .int .i64 0], .slice none 0 0, .int .i64 0, .int .i64 0, .int .i64 0, .int .i64 0] : Array Value).toList 8 = some ([.agg [.agg [.lit (.int .i64 0), .lit (.int .i64 0), .lit (.int .i64 0)], .lit (.int .i64 0), .lit (.int .i64 0), .lit (.int .i64 0)], .nil, .lit (.int .i64 0), .lit (.int .i64 0), .lit (.int .i64 0), .lit (.int .i64 0)], [], places) :=
  ⟨[], by kernel_rfl⟩

set_option maxRecDepth 100000 in
theorem lifted (os : Os) (started : os.Started) (H : Type) (enc : TypeId × Value → H) (F : Stop.Interp) :
    ReturnsInHanded {} Tryd.checked os 3 .any ((OpenSpec.ofChange Rows.epochRecordsSpec).preRow enc Tryd.prog Tryd.f3 Rows.epochRecordsRow.domain false Rows.epochRecordsRow.laid) (((OpenSpec.ofChange Rows.epochRecordsSpec).at F).post enc Tryd.prog Tryd.f3 false true false false) := by
  obtain ⟨places, hx⟩ := reads os enc
  refine returnsInHanded_of_row (C := Tryd.checked) (s := OpenSpec.ofChange Rows.epochRecordsSpec) own started (by kernel_rfl) Tryd.func3
    (witness_row_at (enc := enc) (C := Tryd.checked) false (World.laidAll Tryd.prog os laidFour) #[.agg #[.int .i64 0, .int .i64 0, .int .i64 0, .int .i64 0, .int .i64 0, .int .i64 0], .slice none 0 0, .int .i64 0, .int .i64 0, .int .i64 0, .int .i64 0] (World.laidAll_os _ _ _) (by kernel_rfl) (by kernel_rfl) (by kernel_rfl)
      (OpenSpec.preRow_of_cond 8 hx (by kernel_rfl) (fun k hk => by cases hk) (by kernel_rfl) (laid_met os))) ?_
  intro W base args ds gs before hval hW _ _ _ hL _ _
  exact contract H enc W base args ds gs before hval hW hL

theorem said : Rows.EpochRecordsSaid :=
  OpenClaim.holds_of_cond 3 Tryd.f3 rfl rfl rfl rfl rfl rfl rfl ⟨rfl, rfl, rfl, rfl, rfl⟩ rfl rfl rfl rfl rfl (by kernel_rfl) Tryd.func3 (by kernel_rfl)
    (of_decide_eq_true (by kernel_rfl)) (by unfold Func.isWrapper; first | (rw [if_pos (by decide +kernel)]; kernel_rfl) | (rw [if_neg (by decide +kernel)]; exact ⟨rfl, rfl⟩))
    (fun os started H enc _ F => by rw [OpenClaim.pre_eq_preRow]; exact lifted os started H enc F)

theorem plain (f : FuncId) (fn : Func) (hf : Tryd.pinned.checked.prog.funcNamed "specie/specielaw30.EpochRecords" = some f) (hfn : Tryd.pinned.checked.prog.funcs[f]? = some fn) :
    false = Tryd.pinned.checked.prog.looks [] ∧ ∀ (j : Nat) t, fn.params[j]? = some t → Tryd.pinned.checked.prog.wantsStandIn t = false := by
  obtain rfl : f = 3 := Option.some.inj ((show Tryd.prog.funcNamed "specie/specielaw30.EpochRecords" = some 3 by kernel_rfl).symm.trans hf) |>.symm
  obtain rfl : fn = Tryd.f3 := (Option.some.inj (Tryd.func3.symm.trans hfn)).symm
  refine ⟨by kernel_rfl, fun j t ht => ?_⟩
  have hall : Tryd.f3.params.toList.all (fun t => !Tryd.prog.wantsStandIn t) = true := by kernel_rfl
  have := List.all_eq_true.1 hall t (by rw [← Array.mem_toList_iff.symm]; exact Array.mem_of_getElem? ht)
  exact (by simpa using this : Tryd.prog.wantsStandIn t = false)

/-- The card. -/
theorem card : Rows.EpochRecordsCardSaid :=
  Claim7.holds_tied_plain_at .later [] _ _ _ _ said (fun _ h => by cases h) (by kernel_rfl) (fun _ h => by cases h) epochRecords_row_tie rfl ⟨rfl, rfl⟩ (by kernel_rfl) rfl plain (by kernel_rfl)
end Go.Proofs.YtoaomjdpiealfaaDoor.lawEpochRecords
