/- The reference of the signature: Challenge. The reference of the signature: Scalar. The reference of the signature: Verify. The reference of layer 23: First, Factors. -/
import Derived.Test.YtdlcmpbpdbpanaaGreatDoorMB28
import Derived.Test.YtdlcmpbpdbpanaaGreatDoorMB25
import Derived.Test.YtdlcmpbpdbpanaaGreatDoorMB21
import Derived.Test.YtdlcmpbpdbpanaaGreatDoorMB27
namespace Go.Proofs.YtdlcmpbpdbpanaaGreatDoor
open Go.RowKit Go.Sp
set_option maxHeartbeats 4000000
set_option maxRecDepth 20000

theorem r22Challenge_ok (P Q G r y : Int) (v : Value) (m : List Int) (w : World) (q0 : 2 ≤ Q) (q1 : Q < 2305843009213693952) (hv : SeqAt .u8 w v m) (hl : m.length ≤ 16384) (hm : ∀ x ∈ m, 0 ≤ x ∧ x ≤ 255) :
    Calls Tryz.prog 38 #[grp P Q G, .int .i64 r, .int .i64 y, v] w fun e w' => e = .returned (.int .i64 (sigC P Q G r y m)) ∧ Up w w' := by
  have HV := hid (sigC_lab P Q G r y m)
  generalize sigC P Q G r y m = V at *
  have HDb : Hid (Byt (shaB m)) := hid (shaB_range m)
  have MSUM := fun (v' : Value) (w' : World) (hv' : SeqAt .u8 w' v' m) => rSum_any v' m w' hv' (by omega) hm
  generalize shaB m = D at *
  have M1 := hid (fun w' => r8New_ok lbS w' labS)
  have B0 := trNew_byt (txt lbS)
  generalize trNew (txt lbS) = T0 at *
  have M2 := hid (fun w' (v' : Value) (hv' : IntsAt w' v' [P, Q, G]) => r8Ints_ok T0 0 lbG v' [P, Q, G] w' B0 (by omega) (by omega) labG hv' (by simp))
  have B1 := absB_byt T0 (txt lbG) (encInts [P, Q, G])
  generalize absB T0 (txt lbG) (encInts [P, Q, G]) = T1 at *
  have M3 := hid (fun w' (v' : Value) (hv' : IntsAt w' v' [y]) => r8Ints_ok T1 1 lbK v' [y] w' B1 (by omega) (by omega) labK hv' (by simp))
  have B2 := absB_byt T1 (txt lbK) (encInts [y])
  generalize absB T1 (txt lbK) (encInts [y]) = T2 at *
  have M4 := hid (fun w' (v' : Value) (hv' : IntsAt w' v' [r]) => r8Ints_ok T2 2 lbR v' [r] w' B2 (by omega) (by omega) labR hv' (by simp))
  have B3 := absB_byt T2 (txt lbR) (encInts [r])
  generalize absB T2 (txt lbR) (encInts [r]) = T3 at *
  have M5 := hid (fun w' (v' : Value) (hv' : SeqAt .u8 w' v' m) => MSUM v' w' hv')
  have M7 := hid (fun w' (v' : Value) (hv' : SeqAt .u8 w' v' (hList D)) => r8Absorb_ok T3 3 lbM 2 0 v' nilS (encBytes (hList D)) w' B3 (by omega) (by omega) labM (itm_bytes hv' (by rw [hList_length]; omega) (hList_bytes HDb.out) 6) (by rw [encBytes_length, hList_length]; omega) (encBytes_byt (hList_bytes HDb.out)))
  have B4 := absB_byt T3 (txt lbM) (encBytes (hList D))
  generalize absB T3 (txt lbM) (encBytes (hList D)) = T4 at *
  have M8 := hid (fun w' => r8Challenge_ok T4 4 lbC Q w' B4 (by omega) (by omega) labC q0 q1)
  rw [← HV.out] at M8
  rw [show (3 : Int) + 1 = 4 from rfl] at M7
  obtain ⟨va, vc, rfl, _, _⟩ := hv.shape
  have HX := hid hv
  clear B0 B1 B2 B3 B4 MSUM HV hv
  obtain ⟨o, ho⟩ : ∃ o, w.heap.size = o := ⟨_, rfl⟩
  have HO := hid ho
  clear ho
  go_enter Tryz.func38, Tryz.ntmps38
  go_wp2_with fail
  refine (M1.out _).mono ?_
  rintro e w1 ⟨rfl, hU1⟩
  have HA1 := hid ((nums_three (w := w) (t := 23) HO.out).up hU1)
  have HU1 := hid (((Up.refl w).alloc _).trans hU1)
  rw [HO.out]
  clear hU1
  obtain ⟨g, hg⟩ : ∃ g, w1.heap.size = g := ⟨_, rfl⟩
  have HGg := hid hg
  clear hg
  obtain ⟨c0, c1, c2⟩ := HA1.out
  have l0 := cell_lt c0
  unfold drw at M2 M3 M4 M7 M8 ⊢
  rw [show (0 : Int) + 1 = 1 from rfl] at M2
  rw [show (1 : Int) + 1 = 2 from rfl] at M3
  rw [show (2 : Int) + 1 = 3 from rfl] at M4
  go_wp2_with (first
    | (refine wpList_store_rowTo rfl 135 _ _ rfl rfl _ _ rfl rfl 135 _ (heap_alloc_new _ _) (sizeTr _ _) (by rw [drwA_size]; rfl) (drwA_one _ _) ?_; rw [World.setRow_alloc_new])
    | (refine wpList_load_row rfl 135 _ rfl w1.heap.size rfl 135 (drwA T0 0) (0, 0) _ (Blk.new rfl rfl) Tryz.underlying135 rfl (sizeTr _ _) ?_))
  refine (M2.out _ _ (ints_three (by go_simp) (by go_simp) (by go_simp))).mono ?_
  rintro e w2 ⟨rfl, hU2⟩
  have HT2 := hid (((Blk.new (w := w1) (t := 135) (cs := drwA T0 0) HGg.out rfl).alloc _).up hU2)
  have hU2 := (((Up.refl w1).alloc _).alloc _).trans hU2
  have HA2 := hid (HA1.out.up hU2)
  have HU2 := hid (HU1.out.trans hU2)
  rw [HGg.out]
  have hog : o < g := by have := HGg.out; omega
  have hwg : w.heap.size ≤ g := by have := HO.out; omega
  clear hU2 HA1 HU1 c0 c1 c2 l0
  have l2 := HT2.out.lt
  go_wp2_with (first
    | (refine wpList_store_rowTo rfl 135 _ _ rfl rfl g (drwA T1 1) rfl rfl 135 (drwA T0 0) HT2.out (sizeTr _ _) (by rw [drwA_size, drwA_size]) (drwA_one _ _) ?_)
    | (refine wpList_load_row rfl 135 _ rfl g rfl 135 (drwA T1 1) (0, 0) _ (HT2.out.row _) Tryz.underlying135 rfl (sizeTr _ _) ?_))
  refine (M3.out _ _ (ints_one (by go_simp))).mono ?_
  rintro e w3 ⟨rfl, hU3⟩
  have hU3 := ((Up.refl (w2.setRow g (drwA T1 1))).alloc _).trans hU3
  have HT3 := hid (Blk.up (HT2.out.row (drwA T1 1)) hU3)
  have HA3 := hid ((grp_row HA2.out (by omega : o ≠ g)).up hU3)
  have HU3 := hid ((HU2.out.setRow hwg (drwA T1 1)).trans hU3)
  clear hU3 HT2 HA2 HU2 l2
  have l3 := HT3.out.lt
  go_wp2_with (first
    | (refine wpList_store_rowTo rfl 135 _ _ rfl rfl g (drwA T2 2) rfl rfl 135 (drwA T1 1) HT3.out (sizeTr _ _) (by rw [drwA_size, drwA_size]) (drwA_one _ _) ?_)
    | (refine wpList_load_row rfl 135 _ rfl g rfl 135 (drwA T2 2) (0, 0) _ (HT3.out.row _) Tryz.underlying135 rfl (sizeTr _ _) ?_))
  refine (M4.out _ _ (ints_one (by go_simp))).mono ?_
  rintro e w4 ⟨rfl, hU4⟩
  have hU4 := ((Up.refl (w3.setRow g (drwA T2 2))).alloc _).trans hU4
  have HT4 := hid (Blk.up (HT3.out.row (drwA T2 2)) hU4)
  have HA4 := hid ((grp_row HA3.out (by omega : o ≠ g)).up hU4)
  have HU4 := hid ((HU3.out.setRow hwg (drwA T2 2)).trans hU4)
  clear hU4 HT3 HA3 HU3 l3
  have l4 := HT4.out.lt
  go_wp2_with (first
    | (refine wpList_store_rowTo rfl 135 _ _ rfl rfl g (drwA T3 3) rfl rfl 135 (drwA T2 2) HT4.out (sizeTr _ _) (by rw [drwA_size, drwA_size]) (drwA_one _ _) ?_)
    | (refine wpList_load_row rfl 135 _ rfl g rfl 135 (drwA T3 3) (0, 0) _ (HT4.out.row _) Tryz.underlying135 rfl (sizeTr _ _) ?_))
  have HT5 := hid (HT4.out.row (drwA T3 3))
  have HA5 : Hid (GrpAt (w4.setRow g (drwA T3 3)) o P Q G) := hid (grp_row HA4.out (by omega))
  have HU5 := hid (HU4.out.setRow hwg (drwA T3 3))
  generalize w4.setRow g (drwA T3 3) = w5 at *
  clear HT4 HA4 HU4 l4
  refine region_E (fun _ => True) 10 (by kernel_rfl) trivial fun _ => ?_
  have hT0 := Blk.up HT5.out (Up.refl w5).drew
  have hA0 := GrpAt.up HA5.out (Up.refl w5).drew
  have hX0 := HX.out.up HU5.out.drew
  have hU0 := HU5.out.drew
  generalize w5.drew = v0 at *
  refine anyE_takeA (i := 1) (v := ?_) 42 rfl rfl (by kernel_rfl) (by decide) (fun _ _ _ h => h) (by kernel_rfl) (by kernel_rfl) (.inl ⟨by rfl, fun u hu => ?_⟩) trivial ?_
  rotate_left
  · (go_simp; first | done | with_reducible rfl)
  try simp only [Act.put, List.setIfInBounds_toArray, List.set_cons_zero, List.set_cons_succ]
  refine anyE_two 0 2 (by kernel_rfl) ⟨_, rfl, rfl, fun K hK => ?g0x0⟩ ⟨_, rfl, rfl, fun K hK => ?g2x0⟩
  case' g0x0 =>
    refine wp_load_row 135 _ rfl g rfl 135 (drwA T3 3) (0, 0) _ hT0 Tryz.underlying135 rfl (sizeTr _ _) ?_
    refine hK.out _ _ (.inr trivial) ?_
    clear hK
    try simp only [Act.put, List.setIfInBounds_toArray]
    refine anyE_one (i := 2) rfl (by kernel_rfl) rfl (fun K hK => ?_)
    go_simp
    refine (M5.out _ _ hX0).mono ?_
    rintro e v1 ⟨rfl, hup⟩
    dsimp only
    have hA1 := GrpAt.up hA0 hup
    have hT1 := hT0.up hup
    have hU1 := hU0.trans hup
    have hX1 := hX0.up hup
    refine hK.out _ _ (.inr trivial) ?_
    clear hK hup
    try simp only [Act.put, List.setIfInBounds_toArray, List.set_cons_zero, List.set_cons_succ]
    refine anyE_one (i := 3) rfl (by kernel_rfl) rfl (fun K hK => ?_)
    go_simp
    refine (rHJoin_any nilS [] D _ ⟨none, 0, rfl, by simp, by omega, fun _ => rfl, fun h => absurd rfl h⟩ (by simp)).mono ?_
    rintro e v2 ⟨vj, rfl, hO, hup⟩
    dsimp only
    rw [List.nil_append] at hO
    have hJ2 := hO.seq
    obtain ⟨aj, cj, rfl, _, _⟩ := hO.shape
    have hA2 := GrpAt.up hA1 hup
    have hT2 := hT1.up hup
    have hU2 := hU1.trans hup
    have hX2 := hX1.up hup
    refine hK.out _ _ (.inr trivial) ?_
    clear hK hup hO
    try simp only [Act.put, List.setIfInBounds_toArray, List.set_cons_zero, List.set_cons_succ]
    refine anyE_takeA (i := 4) (v := ?_) 45 rfl rfl (by kernel_rfl) (by decide) (fun _ _ _ h => h) (by kernel_rfl) (by kernel_rfl) (.inl ⟨by rfl, fun u hu => ?_⟩) trivial ?_
    rotate_left
    · (go_simp; first | done | with_reducible rfl)
    try simp only [Act.put, List.setIfInBounds_toArray, List.set_cons_zero, List.set_cons_succ]
    refine anyE_one (i := 5) rfl (by kernel_rfl) rfl (fun K hK => ?_)
    go_simp
    refine (M7.out _ _ hJ2).mono ?_
    rintro e v3 ⟨rfl, hup⟩
    dsimp only
    have hA3 := GrpAt.up hA2 hup
    have hT3 := hT2.up hup
    have hU3 := hU2.trans hup
    have hX3 := hX2.up hup
    refine hK.out _ _ (.inr trivial) ?_
    clear hK hup
    try simp only [Act.put, List.setIfInBounds_toArray, List.set_cons_zero, List.set_cons_succ]
    refine anyE_takeA (i := 6) (v := ?_) 40 rfl rfl (by kernel_rfl) (by decide) (fun _ _ _ h => h) (by kernel_rfl) (by kernel_rfl) (.inl ⟨by rfl, fun u hu => ?_⟩) trivial ?_
    rotate_left
    · (go_simp; first | done | with_reducible rfl)
    try simp only [Act.put, List.setIfInBounds_toArray, List.set_cons_zero, List.set_cons_succ]
    refine anyE_takeA (i := 7) (v := ?_) 47 rfl rfl (by kernel_rfl) (by decide) (fun _ _ _ h => h) (by kernel_rfl) (by kernel_rfl) (.inl ⟨by rfl, fun u hu => ?_⟩) trivial ?_
    rotate_left
    · (go_simp; first | done | with_reducible rfl)
    try simp only [Act.put, List.setIfInBounds_toArray, List.set_cons_zero, List.set_cons_succ]
    refine anyE_takeA (i := 8) (v := ?_) 48 rfl rfl (by kernel_rfl) (by decide) (fun _ _ _ h => h) (by kernel_rfl) (by kernel_rfl) (.inl ⟨by rfl, fun u hu => ?_⟩) trivial ?_
    rotate_left
    · (go_simp; first | done | with_reducible rfl)
    try simp only [Act.put, List.setIfInBounds_toArray, List.set_cons_zero, List.set_cons_succ]
    refine anyE_one (i := 9) rfl (by kernel_rfl) rfl (fun K hK => ?_)
    refine op_store_row 135 _ _ rfl rfl g (drwA T4 4) rfl rfl 135 (drwA T3 3) hT3 (sizeTr _ _) (by rw [drwA_size, drwA_size]) (drwA_one _ _) ?_
    refine hK.out _ _ (.inr trivial) (anyE_done (by kernel_rfl) ?_ _)
    clear hK
    have HT9 := hid (hT3.row (drwA T4 4))
    have HA9 : Hid (GrpAt (v3.setRow g (drwA T4 4)) o P Q G) := hid (grp_row hA3 (by omega))
    have HU9 := hid (hU3.setRow hwg (drwA T4 4))
    generalize v3.setRow g (drwA T4 4) = w9 at *
    clear hT3 hA3 hU3
  case' g2x0 =>
    go_simp
    refine (M5.out _ _ hX0).mono ?_
    rintro e v1 ⟨rfl, hup⟩
    dsimp only
    have hA1 := GrpAt.up hA0 hup
    have hT1 := hT0.up hup
    have hU1 := hU0.trans hup
    have hX1 := hX0.up hup
    refine hK.out _ _ (.inr trivial) ?_
    clear hK hup
    try simp only [Act.put, List.setIfInBounds_toArray, List.set_cons_zero, List.set_cons_succ]
    refine anyE_two 0 3 (by kernel_rfl) ⟨_, rfl, rfl, fun K hK => ?g0x1⟩ ⟨_, rfl, rfl, fun K hK => ?g3x1⟩
    case' g0x1 =>
      refine wp_load_row 135 _ rfl g rfl 135 (drwA T3 3) (0, 0) _ hT1 Tryz.underlying135 rfl (sizeTr _ _) ?_
      refine hK.out _ _ (.inr trivial) ?_
      clear hK
      try simp only [Act.put, List.setIfInBounds_toArray]
      refine anyE_one (i := 3) rfl (by kernel_rfl) rfl (fun K hK => ?_)
      go_simp
      refine (rHJoin_any nilS [] D _ ⟨none, 0, rfl, by simp, by omega, fun _ => rfl, fun h => absurd rfl h⟩ (by simp)).mono ?_
      rintro e v2 ⟨vj, rfl, hO, hup⟩
      dsimp only
      rw [List.nil_append] at hO
      have hJ2 := hO.seq
      obtain ⟨aj, cj, rfl, _, _⟩ := hO.shape
      have hA2 := GrpAt.up hA1 hup
      have hT2 := hT1.up hup
      have hU2 := hU1.trans hup
      have hX2 := hX1.up hup
      refine hK.out _ _ (.inr trivial) ?_
      clear hK hup hO
      try simp only [Act.put, List.setIfInBounds_toArray, List.set_cons_zero, List.set_cons_succ]
      refine anyE_takeA (i := 4) (v := ?_) 45 rfl rfl (by kernel_rfl) (by decide) (fun _ _ _ h => h) (by kernel_rfl) (by kernel_rfl) (.inl ⟨by rfl, fun u hu => ?_⟩) trivial ?_
      rotate_left
      · (go_simp; first | done | with_reducible rfl)
      try simp only [Act.put, List.setIfInBounds_toArray, List.set_cons_zero, List.set_cons_succ]
      refine anyE_one (i := 5) rfl (by kernel_rfl) rfl (fun K hK => ?_)
      go_simp
      refine (M7.out _ _ hJ2).mono ?_
      rintro e v3 ⟨rfl, hup⟩
      dsimp only
      have hA3 := GrpAt.up hA2 hup
      have hT3 := hT2.up hup
      have hU3 := hU2.trans hup
      have hX3 := hX2.up hup
      refine hK.out _ _ (.inr trivial) ?_
      clear hK hup
      try simp only [Act.put, List.setIfInBounds_toArray, List.set_cons_zero, List.set_cons_succ]
      refine anyE_takeA (i := 6) (v := ?_) 40 rfl rfl (by kernel_rfl) (by decide) (fun _ _ _ h => h) (by kernel_rfl) (by kernel_rfl) (.inl ⟨by rfl, fun u hu => ?_⟩) trivial ?_
      rotate_left
      · (go_simp; first | done | with_reducible rfl)
      try simp only [Act.put, List.setIfInBounds_toArray, List.set_cons_zero, List.set_cons_succ]
      refine anyE_takeA (i := 7) (v := ?_) 47 rfl rfl (by kernel_rfl) (by decide) (fun _ _ _ h => h) (by kernel_rfl) (by kernel_rfl) (.inl ⟨by rfl, fun u hu => ?_⟩) trivial ?_
      rotate_left
      · (go_simp; first | done | with_reducible rfl)
      try simp only [Act.put, List.setIfInBounds_toArray, List.set_cons_zero, List.set_cons_succ]
      refine anyE_takeA (i := 8) (v := ?_) 48 rfl rfl (by kernel_rfl) (by decide) (fun _ _ _ h => h) (by kernel_rfl) (by kernel_rfl) (.inl ⟨by rfl, fun u hu => ?_⟩) trivial ?_
      rotate_left
      · (go_simp; first | done | with_reducible rfl)
      try simp only [Act.put, List.setIfInBounds_toArray, List.set_cons_zero, List.set_cons_succ]
      refine anyE_one (i := 9) rfl (by kernel_rfl) rfl (fun K hK => ?_)
      refine op_store_row 135 _ _ rfl rfl g (drwA T4 4) rfl rfl 135 (drwA T3 3) hT3 (sizeTr _ _) (by rw [drwA_size, drwA_size]) (drwA_one _ _) ?_
      refine hK.out _ _ (.inr trivial) (anyE_done (by kernel_rfl) ?_ _)
      clear hK
      have HT9 := hid (hT3.row (drwA T4 4))
      have HA9 : Hid (GrpAt (v3.setRow g (drwA T4 4)) o P Q G) := hid (grp_row hA3 (by omega))
      have HU9 := hid (hU3.setRow hwg (drwA T4 4))
      generalize v3.setRow g (drwA T4 4) = w9 at *
      clear hT3 hA3 hU3
    case' g3x1 =>
      go_simp
      refine (rHJoin_any nilS [] D _ ⟨none, 0, rfl, by simp, by omega, fun _ => rfl, fun h => absurd rfl h⟩ (by simp)).mono ?_
      rintro e v2 ⟨vj, rfl, hO, hup⟩
      dsimp only
      rw [List.nil_append] at hO
      have hJ2 := hO.seq
      obtain ⟨aj, cj, rfl, _, _⟩ := hO.shape
      have hA2 := GrpAt.up hA1 hup
      have hT2 := hT1.up hup
      have hU2 := hU1.trans hup
      have hX2 := hX1.up hup
      refine hK.out _ _ (.inr trivial) ?_
      clear hK hup hO
      try simp only [Act.put, List.setIfInBounds_toArray, List.set_cons_zero, List.set_cons_succ]
      refine anyE_takeA (i := 4) (v := ?_) 45 rfl rfl (by kernel_rfl) (by decide) (fun _ _ _ h => h) (by kernel_rfl) (by kernel_rfl) (.inl ⟨by rfl, fun u hu => ?_⟩) trivial ?_
      rotate_left
      · (go_simp; first | done | with_reducible rfl)
      try simp only [Act.put, List.setIfInBounds_toArray, List.set_cons_zero, List.set_cons_succ]
      refine anyE_one (i := 0) rfl (by kernel_rfl) rfl (fun K hK => ?_)
      refine wp_load_row 135 _ rfl g rfl 135 (drwA T3 3) (0, 0) _ hT2 Tryz.underlying135 rfl (sizeTr _ _) ?_
      refine hK.out _ _ (.inr trivial) ?_
      clear hK
      try simp only [Act.put, List.setIfInBounds_toArray]
      refine anyE_one (i := 5) rfl (by kernel_rfl) rfl (fun K hK => ?_)
      go_simp
      refine (M7.out _ _ hJ2).mono ?_
      rintro e v3 ⟨rfl, hup⟩
      dsimp only
      have hT3 := hT2.up hup
      have hA3 := GrpAt.up hA2 hup
      have hJ3 := hJ2.up hup
      have hU3 := hU2.trans hup
      have hX3 := hX2.up hup
      refine hK.out _ _ (.inr trivial) ?_
      clear hK hup
      try simp only [Act.put, List.setIfInBounds_toArray, List.set_cons_zero, List.set_cons_succ]
      refine anyE_takeA (i := 6) (v := ?_) 40 rfl rfl (by kernel_rfl) (by decide) (fun _ _ _ h => h) (by kernel_rfl) (by kernel_rfl) (.inl ⟨by rfl, fun u hu => ?_⟩) trivial ?_
      rotate_left
      · (go_simp; first | done | with_reducible rfl)
      try simp only [Act.put, List.setIfInBounds_toArray, List.set_cons_zero, List.set_cons_succ]
      refine anyE_takeA (i := 7) (v := ?_) 47 rfl rfl (by kernel_rfl) (by decide) (fun _ _ _ h => h) (by kernel_rfl) (by kernel_rfl) (.inl ⟨by rfl, fun u hu => ?_⟩) trivial ?_
      rotate_left
      · (go_simp; first | done | with_reducible rfl)
      try simp only [Act.put, List.setIfInBounds_toArray, List.set_cons_zero, List.set_cons_succ]
      refine anyE_takeA (i := 8) (v := ?_) 48 rfl rfl (by kernel_rfl) (by decide) (fun _ _ _ h => h) (by kernel_rfl) (by kernel_rfl) (.inl ⟨by rfl, fun u hu => ?_⟩) trivial ?_
      rotate_left
      · (go_simp; first | done | with_reducible rfl)
      try simp only [Act.put, List.setIfInBounds_toArray, List.set_cons_zero, List.set_cons_succ]
      refine anyE_one (i := 9) rfl (by kernel_rfl) rfl (fun K hK => ?_)
      refine op_store_row 135 _ _ rfl rfl g (drwA T4 4) rfl rfl 135 (drwA T3 3) hT3 (sizeTr _ _) (by rw [drwA_size, drwA_size]) (drwA_one _ _) ?_
      refine hK.out _ _ (.inr trivial) (anyE_done (by kernel_rfl) ?_ _)
      clear hK
      have HT9 := hid (hT3.row (drwA T4 4))
      have HA9 : Hid (GrpAt (v3.setRow g (drwA T4 4)) o P Q G) := hid (grp_row hA3 (by omega))
      have HU9 := hid (hU3.setRow hwg (drwA T4 4))
      generalize v3.setRow g (drwA T4 4) = w9 at *
      clear hT3 hA3 hU3
  all_goals (
    obtain ⟨c0, c1, c2⟩ := HA9.out
    go_wp2_with (refine wpList_load_row rfl 135 _ rfl g rfl 135 (drwA T4 4) (0, 0) _ HT9.out Tryz.underlying135 rfl (sizeTr _ _) ?_)
    refine (M8.out _).mono ?_
    rintro e w10 ⟨⟨T, rfl, hTs, hT1⟩, hU10⟩
    have hU11 := hid ((HU9.out.trans hU10).alloc (.cells T 135))
    go_wp2_with (refine wpList_store_rowTo rfl 135 _ _ rfl rfl _ T rfl rfl 135 _ (heap_alloc_new _ _) (by rw [hTs]; kernel_rfl) (by rw [hTs]; rfl) hT1 ?_; rw [World.setRow_alloc_new])
    go_ret
    exact ⟨rfl, hU11.out⟩)
end Go.Proofs.YtdlcmpbpdbpanaaGreatDoor
namespace Go.Proofs.YtdlcmpbpdbpanaaGreatDoor
open Go.RowKit Go.Sp
set_option maxHeartbeats 4000000
set_option maxRecDepth 20000

theorem r22Scalar_any (P Q G x : Int) (w : World) :
    Calls Tryz.prog 34 #[grp P Q G, .int .i64 x] w fun e w' => e = .returned (.bool (exB Q x)) ∧ Up w w' := by
  have HB : Hid (exB Q x = (decide (0 ≤ x) && decide (x < Q))) := hid rfl
  generalize exB Q x = X at *
  by_cases c1 : x ≥ 0
  case neg =>
    have d1 : decide (x ≥ 0) = false := by simpa using c1
    have hX : X = false := by rw [HB.out, show decide (0 ≤ x) = false from d1]; rfl
    subst hX
    clear c1
    go_enter Tryz.func34, Tryz.ntmps34
    go_wp2
    go_ret
    exact ⟨rfl, (Up.refl w).alloc _⟩
  have d1 : decide (x ≥ 0) = true := by simpa using c1
  have HB2 : Hid (X = decide (x < Q)) := hid (by rw [HB.out, show decide (0 ≤ x) = true from d1]; rfl)
  clear HB
  go_enter Tryz.func34, Tryz.ntmps34
  go_wp2
  go_ret
  exact ⟨by rw [HB2.out]; rfl, (Up.refl w).alloc _⟩

theorem r22Commitment_ok (P Q G y c s : Int) (w : World) (hg : gvB P Q G = true) (hy : elB P Q y = true) (hc : exB Q c = true) (hs : exB Q s = true) :
    Calls Tryz.prog 37 #[grp P Q G, .int .i64 y, .int .i64 c, .int .i64 s] w fun e w' => e = .returned (.int .i64 (frgV P Q G y c s)) ∧ Up w w' := by
  have g := gv_iff.1 hg
  have g1 := g.P61
  have g2 := g.P4
  have g3 := g.Q3
  have g4 := g.QP
  have g5 := g.G2
  have g6 := g.GP
  have hy2 := el_iff.1 hy
  have hc2 := exB_iff.1 hc
  have hs2 := exB_iff.1 hs
  have M1 := hid (fun w' => rgPower_sc P Q G G s w' (by omega) g6 hs2.1 hs2.2 g1 (by omega))
  have M2 := hid (fun w' => rgPower_ok P Q G y (-c) w' (by omega) hy2.2.1 (by omega) (by omega) g1 (by omega) (by omega))
  have r1 := pwi_range (P := P) (a := G) (e := s) (by omega)
  have r2 := gpw_nonneg (P := P) (Q := Q) (a := y) (m := -c) (by omega)
  have M3 := hid (fun w' => rgMul_ok P Q G (pwi P G s) (gpw P Q y (-c)) w' r1.1 r1.2 r2.1 r2.2 g1)
  have hw : IntKind.i64.wrap (0 - c) = -c := by rw [IntKind.wrap_i64]; omega
  have hw2 : IntKind.i64.wrap (-c) = -c := by rw [IntKind.wrap_i64]; omega
  have HF : Hid (frgV P Q G y c s = pwi P G s * gpw P Q y (-c) % P) := hid rfl
  rw [HF.out]
  generalize pwi P G s = V1 at *
  generalize gpw P Q y (-c) = V2 at *
  generalize V1 * V2 % P = V at *
  clear HF r1 r2 hg hy hc hs g hy2 hc2 hs2
  obtain ⟨o, ho⟩ : ∃ o, w.heap.size = o := ⟨_, rfl⟩
  have HO := hid ho
  clear ho
  go_enter Tryz.func37, Tryz.ntmps37
  have HA0 := hid (nums_three (w := w) (x := P) (y := Q) (z := G) (t := 23) HO.out)
  have HU0 := hid ((Up.refl w).alloc (.cells #[.int .i64 P, .int .i64 Q, .int .i64 G] 23))
  obtain ⟨c0, c1, c2⟩ := HA0.out
  have fc0 := cellF c0
  have fc1 := cellF c1
  have fc2 := cellF c2
  clear c0 c1 c2
  go_wp2_with fail
  rw [HO.out]
  refine wp_region_up (by kernel_rfl) (by kernel_rfl) ?_
  repeat (go_big_quiet_step ((first
      | (go_at_call 35; first
          | ((with_reducible (show Calls _ _ #[_, .int .i64 G, _] _ _)); exact Calls.up_of (M1.out _))
          | ((with_reducible (show Calls _ _ #[_, .int .i64 y, _] _ _)); exact Calls.up_of (M2.out _)))
      | (go_at_call 86; exact Calls.up_of (M3.out _)))))
  refine wpQuiet_nil ?_
  rintro w1 ⟨⟨_, hU1⟩, rfl⟩
  try dsimp only
  have HA1 := hid (HA0.out.up hU1)
  have HU1 := hid (HU0.out.trans hU1)
  clear hU1 HA0 HU0 fc0 fc1 fc2
  go_wp2
  go_ret
  exact ⟨rfl, HU1.out⟩
end Go.Proofs.YtdlcmpbpdbpanaaGreatDoor
namespace Go.Proofs.YtdlcmpbpdbpanaaGreatDoor
open Go.RowKit Go.Sp
set_option maxHeartbeats 4000000
set_option maxRecDepth 20000

theorem gv_two {P Q G : Int} (hg : gvB P Q G = true) : 2 ≤ Q ∧ Q < 2305843009213693952 := by
  have g := gv_iff.1 hg
  have := g.P61
  have := g.Q3
  have := g.QP
  omega

theorem r22Verify_any (P Q G y c s : Int) (v : Value) (m : List Int) (w : World) (hP : -9223372036854775808 ≤ P) (hQ : Q ≤ 9223372036854775807) (hv : SeqAt .u8 w v m) (hm : ∀ x ∈ m, 0 ≤ x ∧ x ≤ 255) :
    Calls Tryz.prog 39 #[grp P Q G, .int .i64 y, v, .agg #[.int .i64 c, .int .i64 s]] w fun e w' => e = .returned (.bool (verS P Q G y m c s)) ∧ Up w w' := by
  have M0 := hid (fun w' => rContains_any P Q G y w' hP hQ)
  have M1 := hid (fun w' => r22Scalar_any P Q G c w')
  have M2 := hid (fun w' => r22Scalar_any P Q G s w')
  have M3 := hid (fun w' (h1 : conB P Q G y = true) (h2 : exB Q c = true) (h3 : exB Q s = true) => r22Commitment_ok P Q G y c s w' (by simp [conB] at h1; exact h1.1) (by simp [conB] at h1; exact h1.2) h2 h3)
  have M4 := hid (fun w' (hU : Up w w') (h1 : conB P Q G y = true) (hl : m.length ≤ 16384) => r22Challenge_ok P Q G (frgV P Q G y c s) y v m w' (by simp [conB] at h1; exact (gv_two h1.1).1) (by simp [conB] at h1; exact (gv_two h1.1).2) (hv.up hU) hl hm)
  have HB0 : Hid (verS P Q G y m c s = (conB P Q G y && (decide (m.length ≤ 16384) && (exB Q c && (exB Q s && decide (sigC P Q G (frgV P Q G y c s) y m = c)))))) := hid (by
    unfold verS frgE errE conB
    cases gvB P Q G <;> cases elB P Q y <;> cases exB Q c <;> cases exB Q s <;> simp)
  generalize verS P Q G y m c s = T at *
  generalize frgV P Q G y c s = V at *
  generalize sigC P Q G V y m = D at *
  generalize conB P Q G y = b1 at *
  generalize exB Q c = b2 at *
  generalize exB Q s = b3 at *
  obtain ⟨va, vc, rfl, _, _⟩ := hv.shape
  obtain ⟨n, hn⟩ : ∃ n, m.length = n := ⟨_, rfl⟩
  rw [hn] at M4 HB0 ⊢
  obtain ⟨o, ho⟩ : ∃ o, w.heap.size = o := ⟨_, rfl⟩
  have HO := hid ho
  obtain ⟨o1, ho1⟩ : ∃ o1, o + 1 = o1 := ⟨_, rfl⟩
  have HO1 := hid ho1
  clear hv hm hn ho ho1
  go_enter Tryz.func39, Tryz.ntmps39
  go_wp2_with fail
  refine (M0.out _).mono ?_
  rintro e w1 ⟨rfl, hU1⟩
  have HA1 := hid (((nums_three (w := w) (t := 23) HO.out).up ((Up.refl _).alloc _)).up hU1)
  have HS1 := hid (((nums_two (r := o1) (t := 67) (x := c) (y := s) (by have := HO.out; have := HO1.out; simp; omega))).up hU1)
  have HU1 := hid ((((Up.refl w).alloc _).alloc _).trans hU1)
  clear hU1
  rw [HO.out, HO1.out]
  obtain ⟨c0, c1, c2⟩ := HA1.out
  obtain ⟨s0, s1⟩ := HS1.out
  cases b1
  case false =>
    have hX : T = false := HB0.out
    subst hX
    go_wp2
    go_ret
    exact ⟨rfl, HU1.out⟩
  have HB1 : Hid (T = (decide (n ≤ 16384) && (b2 && (b3 && decide (D = c))))) := hid HB0.out
  clear HB0
  by_cases hl : n ≤ 16384
  case neg =>
    have dl : decide ((n : Int) > 16384) = true := by simp; omega
    have hX : T = false := by rw [HB1.out, show decide (n ≤ 16384) = false by simpa using hl]; rfl
    subst hX
    clear hl
    go_wp2
    go_ret
    exact ⟨rfl, HU1.out⟩
  have dl : decide ((n : Int) > 16384) = false := by simp; omega
  have HB2 : Hid (T = (b2 && (b3 && decide (D = c)))) := hid (by rw [HB1.out, show decide (n ≤ 16384) = true by simpa using hl]; rfl)
  clear HB1
  go_wp2_with fail
  refine (M1.out _).mono ?_
  rintro e w2 ⟨rfl, hU2⟩
  have HA2 := hid (HA1.out.up hU2)
  have HS2 := hid (HS1.out.up hU2)
  have HU2 := hid (HU1.out.trans hU2)
  clear hU2 HA1 HS1 HU1 c0 c1 c2 s0 s1
  obtain ⟨c0, c1, c2⟩ := HA2.out
  obtain ⟨s0, s1⟩ := HS2.out
  cases b2
  case false =>
    have hX : T = false := HB2.out
    subst hX
    go_wp2
    go_ret
    exact ⟨rfl, HU2.out⟩
  have HB3 : Hid (T = (b3 && decide (D = c))) := hid HB2.out
  clear HB2
  go_wp2_with fail
  refine (M2.out _).mono ?_
  rintro e w3 ⟨rfl, hU3⟩
  have HA3 := hid (HA2.out.up hU3)
  have HS3 := hid (HS2.out.up hU3)
  have HU3 := hid (HU2.out.trans hU3)
  clear hU3 HA2 HS2 HU2 c0 c1 c2 s0 s1
  obtain ⟨c0, c1, c2⟩ := HA3.out
  obtain ⟨s0, s1⟩ := HS3.out
  cases b3
  case false =>
    have hX : T = false := HB3.out
    subst hX
    go_wp2
    go_ret
    exact ⟨rfl, HU3.out⟩
  have HB4 : Hid (T = (decide (D = c))) := hid HB3.out
  clear HB3
  have N4 := hid (fun w' (hU : Up w w') => M4.out w' hU (by trivial) hl)
  clear M4 hl
  have fc0 := cellF c0
  have fc1 := cellF c1
  have fc2 := cellF c2
  have fs0 := cellF s0
  have fs1 := cellF s1
  clear c0 c1 c2 s0 s1
  go_wp2_with fail
  refine wp_region_up (by kernel_rfl) (by kernel_rfl) ?_
  repeat (go_big_quiet_step ((first
      | (go_at_call 37; exact Calls.up_of (M3.out _ (by trivial) (by trivial) (by trivial)))
      | (go_at_call 38; exact Calls.up_of (N4.out _ (HU3.out.trans (UpFrom.up _)))))))
  refine wpQuiet_nil ?_
  rintro w4 ⟨⟨_, hU4⟩, rfl⟩
  try dsimp only
  have HA4 := hid (HA3.out.up hU4)
  have HS4 := hid (HS3.out.up hU4)
  have HU4 := hid (HU3.out.trans hU4)
  clear hU4 HA3 HS3 HU3 fc0 fc1 fc2 fs0 fs1
  go_wp2
  go_ret
  exact ⟨by rw [HB4.out]; first | rfl | (congr 1; exact (decide_eq_decide.2 Iff.rfl)), HU4.out⟩
end Go.Proofs.YtdlcmpbpdbpanaaGreatDoor
namespace Go.Proofs.YtdlcmpbpdbpanaaGreatDoor
open Go.RowKit Go.Sp
set_option maxHeartbeats 4000000
set_option maxRecDepth 20000

theorem r23First_any (P Q G y r c s : Int) (v : Value) (m : List Int) (sc ss : Int) (w : World) (hP : -9223372036854775808 ≤ P) (hQ : Q ≤ 9223372036854775807) (hv : SeqAt .u8 w v m) (hm : ∀ x ∈ m, 0 ≤ x ∧ x ≤ 255) :
    Calls Tryz.prog 59 #[grp P Q G, .int .i64 y, .agg #[.int .i64 r, .int .i64 c, .int .i64 s], v, .agg #[.int .i64 sc, .int .i64 ss]] w fun e w' => e = .returned (.int .i64 (gvnE P Q G y r c s m sc ss)) ∧ Up w w' := by
  have M1 := hid (fun w' => rValid_any P Q G w' hP hQ)
  have M2 := hid (fun w' (hg : gvB P Q G = true) => rMember_any P Q G y w' (gv_iff.1 hg).P61 (by have := (gv_iff.1 hg).Q3; omega) hQ)
  have M3 := hid (fun w' (hg : gvB P Q G = true) => r23Check_ok P Q G y r c s w' hQ hg)
  have M4 := hid (fun w' (hU : Up w w') => r22Verify_any P Q G y sc ss v m w' hP hQ (hv.up hU) hm)
  have HE : Hid (gvnE P Q G y r c s m sc ss = bgE (gvB P Q G) (elB P Q y) (chkB P Q G y r c s) (verS P Q G y m sc ss)) := hid (by
    unfold gvnE conB
    cases gvB P Q G <;> simp [bgE])
  rw [HE.out]
  clear HE
  generalize chkB P Q G y r c s = b3 at *
  generalize verS P Q G y m sc ss = b4 at *
  generalize elB P Q y = b2 at *
  generalize gvB P Q G = b1 at *
  obtain ⟨va, vc, rfl, _, _⟩ := hv.shape
  obtain ⟨n, hn⟩ : ∃ n, m.length = n := ⟨_, rfl⟩
  rw [hn] at M4 ⊢
  obtain ⟨o, ho⟩ : ∃ o, w.heap.size = o := ⟨_, rfl⟩
  have HO := hid ho
  obtain ⟨o1, ho1⟩ : ∃ o1, o + 1 = o1 := ⟨_, rfl⟩
  have HO1 := hid ho1
  obtain ⟨o2, ho2⟩ : ∃ o2, o1 + 1 = o2 := ⟨_, rfl⟩
  have HO2 := hid ho2
  clear hv hm hn ho ho1 ho2
  go_enter Tryz.func59, Tryz.ntmps59
  go_wp2_with fail
  refine (M1.out _).mono ?_
  rintro e w1 ⟨rfl, hU1⟩
  have HA1 := hid (((nums_three (w := w) (t := 23) HO.out).up (((Up.refl _).alloc _).alloc _)).up hU1)
  have HV1 := hid (((nums_three (r := o1) (t := 80) (by have := HO.out; have := HO1.out; have := HO2.out; simp; omega)).up ((Up.refl _).alloc _)).up hU1)
  have HS1 := hid (((nums_two (r := o2) (t := 67) (x := sc) (y := ss) (by have := HO.out; have := HO1.out; have := HO2.out; simp; omega))).up hU1)
  have HU1 := hid (((((Up.refl w).alloc _).alloc _).alloc _).trans hU1)
  clear hU1
  rw [HO.out, HO1.out, HO2.out]
  obtain ⟨c0, c1, c2⟩ := HA1.out
  obtain ⟨v0, v1, v2⟩ := HV1.out
  obtain ⟨s0, s1⟩ := HS1.out
  cases b1
  · go_wp2
    go_ret
    exact ⟨rfl, HU1.out⟩
  go_wp2_with fail
  refine (M2.out _ (by trivial)).mono ?_
  rintro e w2 ⟨rfl, hU2⟩
  have HA2 := hid (HA1.out.up hU2)
  have HV2 := hid (HV1.out.up hU2)
  have HS2 := hid (HS1.out.up hU2)
  have HU2 := hid (HU1.out.trans hU2)
  clear hU2 HA1 HV1 HS1 HU1 c0 c1 c2 v0 v1 v2 s0 s1
  obtain ⟨c0, c1, c2⟩ := HA2.out
  obtain ⟨v0, v1, v2⟩ := HV2.out
  obtain ⟨s0, s1⟩ := HS2.out
  cases b2
  · go_wp2
    go_ret
    exact ⟨rfl, HU2.out⟩
  go_wp2_with fail
  refine (M3.out _ (by trivial)).mono ?_
  rintro e w3 ⟨rfl, hU3⟩
  have HA3 := hid (HA2.out.up hU3)
  have HV3 := hid (HV2.out.up hU3)
  have HS3 := hid (HS2.out.up hU3)
  have HU3 := hid (HU2.out.trans hU3)
  clear hU3 HA2 HV2 HS2 HU2 c0 c1 c2 v0 v1 v2 s0 s1
  obtain ⟨c0, c1, c2⟩ := HA3.out
  obtain ⟨v0, v1, v2⟩ := HV3.out
  obtain ⟨s0, s1⟩ := HS3.out
  cases b3
  · go_wp2
    go_ret
    exact ⟨rfl, HU3.out⟩
  go_wp2_with fail
  refine (M4.out _ (HU3.out)).mono ?_
  rintro e w4 ⟨rfl, hU4⟩
  have HA4 := hid (HA3.out.up hU4)
  have HV4 := hid (HV3.out.up hU4)
  have HS4 := hid (HS3.out.up hU4)
  have HU4 := hid (HU3.out.trans hU4)
  clear hU4 HA3 HV3 HS3 HU3 c0 c1 c2 v0 v1 v2 s0 s1
  cases b4
  · go_wp2
    go_ret
    exact ⟨rfl, HU4.out⟩
  go_wp2
  go_ret
  exact ⟨rfl, HU4.out⟩

theorem r23Factors_ok (P Q G r c s sc ss : Int) (w : World) (hg : gvB P Q G = true) (hc : exB Q c = true) (hs : exB Q s = true) (hsc : exB Q sc = true) (hss : exB Q ss = true) :
    Calls Tryz.prog 60 #[grp P Q G, .agg #[.int .i64 r, .int .i64 c, .int .i64 s], .agg #[.int .i64 sc, .int .i64 ss]] w fun e w' => e = .returned (.tuple #[.int .i64 ((ss - s) % Q), .int .i64 ((c - sc) % Q)]) ∧ Up w w' := by
  obtain ⟨q0, q1⟩ := gv_q hg
  obtain ⟨c0', c1'⟩ := exB_iff.1 hc
  obtain ⟨s0', s1'⟩ := exB_iff.1 hs
  obtain ⟨d0', d1'⟩ := exB_iff.1 hsc
  obtain ⟨e0', e1'⟩ := exB_iff.1 hss
  have M1 := hid (fun w' => (rReduce_ok (ss - s) Q w' (by omega) (by omega) (by omega) q1).mono (fun e w'' h => (⟨h.1, h.2 ▸ Up.refl _⟩ : _ ∧ Up w' w'')))
  have M2 := hid (fun w' => (rReduce_ok (c - sc) Q w' (by omega) (by omega) (by omega) q1).mono (fun e w'' h => (⟨h.1, h.2 ▸ Up.refl _⟩ : _ ∧ Up w' w'')))
  have hw1 : IntKind.i64.wrap (ss - s) = ss - s := by rw [IntKind.wrap_i64]; omega
  have hw2 : IntKind.i64.wrap (c - sc) = c - sc := by rw [IntKind.wrap_i64]; omega
  generalize (ss - s) % Q = X1 at *
  generalize (c - sc) % Q = X2 at *
  obtain ⟨o, ho⟩ : ∃ o, w.heap.size = o := ⟨_, rfl⟩
  have HO := hid ho
  obtain ⟨o1, ho1⟩ : ∃ o1, o + 1 = o1 := ⟨_, rfl⟩
  have HO1 := hid ho1
  obtain ⟨o2, ho2⟩ : ∃ o2, o1 + 1 = o2 := ⟨_, rfl⟩
  have HO2 := hid ho2
  have h12 : o + 1 + 1 = o2 := by omega
  clear hg hc hs hsc hss q0 q1 c0' c1' s0' s1' d0' d1' e0' e1' ho ho2
  go_enter Tryz.func60, Tryz.ntmps60
  go_wp2_with fail
  have HA0 : Hid (GrpAt (((w.alloc (.cells #[.int .i64 P, .int .i64 Q, .int .i64 G] 23)).alloc (.cells #[.int .i64 r, .int .i64 c, .int .i64 s] 80)).alloc (.cells #[.int .i64 sc, .int .i64 ss] 67)) o P Q G) := hid ((nums_three (w := w) (t := 23) HO.out).up (((Up.refl _).alloc _).alloc _))
  have HV0 : Hid (GrpAt (((w.alloc (.cells #[.int .i64 P, .int .i64 Q, .int .i64 G] 23)).alloc (.cells #[.int .i64 r, .int .i64 c, .int .i64 s] 80)).alloc (.cells #[.int .i64 sc, .int .i64 ss] 67)) o1 r c s) := hid ((nums_three (r := o1) (t := 80) (by have := HO.out; have := HO1.out; have := HO2.out; simp; omega)).up ((Up.refl _).alloc _))
  have HS0 : Hid (SigAt (((w.alloc (.cells #[.int .i64 P, .int .i64 Q, .int .i64 G] 23)).alloc (.cells #[.int .i64 r, .int .i64 c, .int .i64 s] 80)).alloc (.cells #[.int .i64 sc, .int .i64 ss] 67)) o2 sc ss) := hid (nums_two (r := o2) (t := 67) (x := sc) (y := ss) (by have := HO.out; have := HO1.out; have := HO2.out; simp; omega))
  have HU0 : Hid (Up w (((w.alloc (.cells #[.int .i64 P, .int .i64 Q, .int .i64 G] 23)).alloc (.cells #[.int .i64 r, .int .i64 c, .int .i64 s] 80)).alloc (.cells #[.int .i64 sc, .int .i64 ss] 67))) := hid (((Up.refl w).alloc _).alloc _ |>.alloc _)
  rw [HO.out, h12, ho1]
  clear h12 ho1
  generalize (((w.alloc (.cells #[.int .i64 P, .int .i64 Q, .int .i64 G] 23)).alloc (.cells #[.int .i64 r, .int .i64 c, .int .i64 s] 80)).alloc (.cells #[.int .i64 sc, .int .i64 ss] 67)) = w0 at *
  obtain ⟨c0, c1, c2⟩ := HA0.out
  obtain ⟨v0, v1, v2⟩ := HV0.out
  obtain ⟨s0, s1⟩ := HS0.out
  have fc0 := cellF c0
  have fc1 := cellF c1
  have fc2 := cellF c2
  have fv0 := cellF v0
  have fv1 := cellF v1
  have fv2 := cellF v2
  have fs0 := cellF s0
  have fs1 := cellF s1
  clear c0 c1 c2 v0 v1 v2 s0 s1
  go_wp2_with fail
  refine wp_region_up (by kernel_rfl) (by kernel_rfl) ?_
  repeat (go_big_quiet_step ((first
      | (go_at_call 48; first
        | ((with_reducible (show Calls _ _ #[.int .i64 (ss - s), _] _ _)); exact Calls.up_of (M1.out _))
        | ((with_reducible (show Calls _ _ #[.int .i64 (c - sc), _] _ _)); exact Calls.up_of (M2.out _))))))
  refine wpQuiet_nil ?_
  rintro w1 ⟨⟨_, hU1⟩, rfl⟩
  try dsimp only
  have HA1 := hid (HA0.out.up hU1)
  have HV1 := hid (HV0.out.up hU1)
  have HS1 := hid (HS0.out.up hU1)
  have HU1 := hid (HU0.out.trans hU1)
  clear hU1 HA0 HV0 HS0 HU0 fc0 fc1 fc2 fv0 fv1 fv2 fs0 fs1
  go_wp2
  go_ret2
  exact ⟨rfl, HU1.out⟩
end Go.Proofs.YtdlcmpbpdbpanaaGreatDoor
