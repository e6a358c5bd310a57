/- The reference of the transcript: lists of integers. The reference of the transcript: Ints. Package signature: the writer of a transcript. Regions that draw their order: two or three operations may come up. Over any program. Package signature: the check of arguments; the challenge. -/
import Derived.Test.YtoaomjdpiealfaaGreatDoorMB22
import Derived.Test.YtoaomjdpiealfaaGreatDoorMB17
import Derived.Test.YtoaomjdpiealfaaGreatDoorMB15
import Derived.Deep.RegionHeld3
namespace Go.Proofs.YtoaomjdpiealfaaGreatDoor
open Go.RowKit Go.Sp
set_option maxHeartbeats 4000000
set_option maxRecDepth 20000

/-- What the loop's region reads. -/
def R8S (L i : Nat) (ad : Option Addr) (cp : Nat) (w0 w : World) : Prop := Blk w L 142 #[.int .i64 3, .int .i64 0, nilS, .slice ad i cp] ∧ Up w0 w
theorem R8S.up {L i : Nat} {ad : Option Addr} {cp : Nat} {w0 w w' : World} (h : R8S L i ad cp w0 w) (hU : Up w w') : R8S L i ad cp w0 w' := ⟨h.1.up hU, h.2.trans hU⟩
theorem R8S.cells {L i : Nat} {ad : Option Addr} {cp : Nat} {w0 w : World} (h : R8S L i ad cp w0 w) : w.cell? ⟨L, 3, none⟩ = some (.slice ad i cp) ∧ Up w0 w := ⟨h.1.val (i := 3) rfl, h.2⟩

theorem r8List_ok (v : Value) (xs : List Int) (w : World) (hv : IntsAt w v xs) (hl : xs.length ≤ 1000) :
    Calls Tryz.prog 211 #[v] w fun e w' => ∃ l, e = .returned (itm 3 0 nilS l) ∧ ItmAt w' 1 3 0 nilS l (encInts xs) ∧ Up w w' := by
  obtain ⟨l1, a1, cp1, rfl, hc1⟩ := hv
  have HC := hid hc1
  obtain ⟨n, hn⟩ : ∃ n, xs.length = n := ⟨_, rfl⟩
  have HN := hid hn
  rw [hn] at l1 hl
  rw [hn]
  clear hc1 hn
  obtain ⟨o, ho⟩ : ∃ o, w.heap.size = o := ⟨_, rfl⟩
  have HO := hid ho
  obtain ⟨o1, ho1⟩ : ∃ o1, o + 1 = o1 := ⟨_, rfl⟩
  have HO1 := hid ho1
  obtain ⟨o2, ho2⟩ : ∃ o2, o1 + 1 = o2 := ⟨_, rfl⟩
  have HO2 := hid ho2
  clear ho ho1 ho2
  go_enter Tryz.func211, Tryz.ntmps211
  go_wp2_with fail
  have HZ0 : Hid (Blk ((w.alloc (.cells #[.int .i64 0, .int .i64 0, nilS, nilS] 142)).alloc (.cells #[.int .i64 3, .int .i64 0, nilS, nilS] 142)) o 142 #[.int .i64 0, .int .i64 0, nilS, nilS]) := hid ((Blk.new HO.out rfl).alloc _)
  have HL0 : Hid (Blk ((w.alloc (.cells #[.int .i64 0, .int .i64 0, nilS, nilS] 142)).alloc (.cells #[.int .i64 3, .int .i64 0, nilS, nilS] 142)) o1 142 #[.int .i64 3, .int .i64 0, nilS, nilS]) := hid (Blk.new (by have := HO.out; have := HO1.out; simp; omega) rfl)
  have HU0 : Hid (Up w ((w.alloc (.cells #[.int .i64 0, .int .i64 0, nilS, nilS] 142)).alloc (.cells #[.int .i64 3, .int .i64 0, nilS, nilS] 142))) := hid (((Up.refl w).alloc _).alloc _)
  rw [HO.out, HO1.out]
  rw [show (w.alloc (.cells #[.int .i64 0, .int .i64 0, .slice none 0 0, .slice none 0 0] 142)).alloc (.cells #[.int .i64 3, .int .i64 0, .slice none 0 0, .slice none 0 0] 142) = (w.alloc (.cells #[.int .i64 0, .int .i64 0, nilS, nilS] 142)).alloc (.cells #[.int .i64 3, .int .i64 0, nilS, nilS] 142) from rfl]
  generalize (w.alloc (.cells #[.int .i64 0, .int .i64 0, nilS, nilS] 142)).alloc (.cells #[.int .i64 3, .int .i64 0, nilS, nilS] 142) = w0 at *
  go_loopw [4] (fun vi wr => ∃ (i : Nat) (ad : Option Addr) (cp : Nat), i ≤ n ∧ vi = .int .i64 i ∧ Hid (Blk wr o1 142 #[.int .i64 3, .int .i64 0, nilS, .slice ad i cp]) ∧ Hid (Blk wr o 142 #[.int .i64 0, .int .i64 0, nilS, nilS]) ∧ Hid (OwnQ 142 wr o2 (.slice ad i cp) ((xs.take i).map quadI)) ∧ Hid (Up w wr)) (fun vi _ => n - (intOf vi).toNat)
  case atStart => exact ⟨0, none, 0, by omega, rfl, HL0, HZ0, hid ownQ_none, HU0⟩
  case round =>
    clear HL0 HZ0 HU0
    obtain ⟨i, ad, cp, hi, rfl, HL, HZ, HQ, HU⟩ := hrel
    have lL : o1 < wr.heap.size := HL.out.lt
    have hlo : o < o1 := by have := HO1.out; omega
    have hlo2 : o1 < o2 := by have := HO2.out; omega
    have hlw : w.heap.size ≤ o := by have := HO.out; omega
    by_cases hlt : i < n
    · have hlx : i < xs.length := by rw [HN.out]; exact hlt
      obtain ⟨b1, f1, rfl, q1⟩ := ints_cell HC.out (Up.refl w) hlx
      have HT : Hid (xs.take (i + 1) = xs.take i ++ [xs.getD i 0]) := hid (by rw [List.take_succ_eq_append_getElem hlx]; simp [hlx])
      have HLi : Hid (((xs.take i).map quadI).length = i) := hid (by simp; omega)
      have HLi1 : Hid (((xs.take (i + 1)).map quadI).length = i + 1) := hid (by simp; omega)
      have hz1 : (i : Int) < n := by omega
      clear hlx
      generalize xs.getD i 0 = x at *
      have HX : Hid (True ∧ ∀ u, Up w u → u.cell? ⟨b1, f1 + i, none⟩ = some (.int .i64 x)) := hid ⟨trivial, fun u hU => cellUp hU q1⟩
      have HQ7 : Hid ((xs.take i).map quadI ++ [quadI x] = (xs.take (i + 1)).map quadI) := hid (by rw [HT.out, List.map_append]; rfl)
      have HB : Hid (R8S o1 i ad cp w wr) := hid ⟨HL.out, HU.out⟩
      clear q1
      go_wp2_with fail
      refine region_E (R8S o1 i ad cp w) 10 (by kernel_rfl) (HB.out.up (Up.refl _).drew) fun hS => ?_
      refine anyE_take (i := 0) (v := ?_) 12 rfl rfl (by kernel_rfl) (by kernel_rfl) (by decide) (fun _ _ _ h => h) (by kernel_rfl) (by kernel_rfl) (.inl ⟨by rfl, fun u hu => ?_⟩) hS ?_
      rotate_left
      · (obtain ⟨u1, u2⟩ := R8S.cells hu; have u3 := HX.out.2 _ u2; go_simp; first | done | with_reducible rfl)
      simp only [Act.put, List.setIfInBounds_toArray, List.set_cons_zero, List.set_cons_succ]
      refine anyE_take (i := 1) (v := ?_) 13 rfl rfl (by kernel_rfl) (by kernel_rfl) (by decide) (fun _ _ _ h => h) (by kernel_rfl) (by kernel_rfl) (.inl ⟨by rfl, fun u hu => ?_⟩) hS ?_
      rotate_left
      · (obtain ⟨u1, u2⟩ := R8S.cells hu; have u3 := HX.out.2 _ u2; go_simp; first | done | with_reducible rfl)
      simp only [Act.put, List.setIfInBounds_toArray, List.set_cons_zero, List.set_cons_succ]
      refine anyE_take (i := 2) (v := ?_) 14 rfl rfl (by kernel_rfl) (by kernel_rfl) (by decide) (fun _ _ _ h => h) (by kernel_rfl) (by kernel_rfl) (.inl ⟨by rfl, fun u hu => ?_⟩) hS ?_
      rotate_left
      · (obtain ⟨u1, u2⟩ := R8S.cells hu; have u3 := HX.out.2 _ u2; go_simp; first | done | with_reducible rfl)
      simp only [Act.put, List.setIfInBounds_toArray, List.set_cons_zero, List.set_cons_succ]
      refine anyE_take (i := 3) (v := ?_) 15 rfl rfl (by kernel_rfl) (by kernel_rfl) (by decide) (fun _ _ _ h => h) (by kernel_rfl) (by kernel_rfl) (.inl ⟨by rfl, fun u hu => ?_⟩) hS ?_
      rotate_left
      · (obtain ⟨u1, u2⟩ := R8S.cells hu; have u3 := HX.out.2 _ u2; go_simp; first | done | with_reducible rfl)
      simp only [Act.put, List.setIfInBounds_toArray, List.set_cons_zero, List.set_cons_succ]
      refine anyE_take (i := 4) (v := ?_) 16 rfl rfl (by kernel_rfl) (by kernel_rfl) (by decide) (fun _ _ _ h => h) (by kernel_rfl) (by kernel_rfl) (.inl ⟨by rfl, fun u hu => ?_⟩) hS ?_
      rotate_left
      · (obtain ⟨u1, u2⟩ := R8S.cells hu; have u3 := HX.out.2 _ u2; go_simp; first | done | with_reducible rfl)
      simp only [Act.put, List.setIfInBounds_toArray, List.set_cons_zero, List.set_cons_succ]
      refine anyE_take (i := 5) (v := ?_) 17 rfl rfl (by kernel_rfl) (by kernel_rfl) (by decide) (fun _ _ _ h => h) (by kernel_rfl) (by kernel_rfl) (.inl ⟨by rfl, fun u hu => ?_⟩) hS ?_
      rotate_left
      · (obtain ⟨u1, u2⟩ := R8S.cells hu; have u3 := HX.out.2 _ u2; go_simp; first | done | with_reducible rfl)
      simp only [Act.put, List.setIfInBounds_toArray, List.set_cons_zero, List.set_cons_succ]
      refine anyE_take (i := 6) (v := ?_) 18 rfl rfl (by kernel_rfl) (by kernel_rfl) (by decide) (fun _ _ _ h => h) (by kernel_rfl) (by kernel_rfl) (.inl ⟨by rfl, fun u hu => ?_⟩) hS ?_
      rotate_left
      · (obtain ⟨u1, u2⟩ := R8S.cells hu; have u3 := HX.out.2 _ u2; go_simp; first | done | with_reducible rfl)
      simp only [Act.put, List.setIfInBounds_toArray, List.set_cons_zero, List.set_cons_succ]
      refine anyE_one (i := 7) rfl (by kernel_rfl) rfl (fun K hK => ?_)
      go_simp
      have hQ4 := (Up.refl wr).drew.alloc (.cells #[.int .i64 1, .int .i64 x, nilS, nilS] 142)
      have hS4 := R8S.up (HB.out.up (Up.refl wr).drew) ((Up.refl wr.drew).alloc (.cells #[.int .i64 1, .int .i64 x, nilS, nilS] 142))
      refine hK.out _ _ (.inr hS4) ?_
      clear hK
      try simp only [Act.put, List.setIfInBounds_toArray, List.set_cons_zero, List.set_cons_succ]
      have hO4 := HQ.out.up hQ4
      have hz4 := hQ4.size
      refine anyE_one (i := 8) rfl (by kernel_rfl) rfl (fun K hK => ?_)
      refine op_appQ infoItm rfl Tryz.underlying140 (by omega) _ _ rfl o2 rfl hO4 wr.drew.heap.size 1 (news := [quadI x]) rfl (fun j hj => by (obtain rfl : j = 0 := (by simp at hj; omega)); exact itm_new rfl) (fun j hj => by (obtain rfl : j = 0 := (by simp at hj; omega)); exact ⟨rfl, rfl⟩) (by have := HLi.out; simp; simp at this; omega) (by have h8 : wr.drew.heap.size = wr.heap.size := rfl; have := HO2.out; simp; omega) ?_
      intro v5 w5 hO5 hg5
      have hB5 := hO4.below hg5 (by have h8 : wr.drew.heap.size = wr.heap.size := rfl; have := HO2.out; simp; omega)
      have hS5 : R8S o1 i ad cp w w5 := ⟨hS4.1.below hB5 (by omega), up_below hS4.2 hB5 (by omega)⟩
      rw [HQ7.out] at hO5
      obtain ⟨a5, c5, rfl⟩ := hO5.shape
      rw [HLi1.out] at hO5
      rw [HLi1.out]
      change K (Act.put _ (some 20) _) _
      refine hK.out _ _ (.inr hS5) ?_
      clear hK
      try simp only [Act.put, List.setIfInBounds_toArray, List.set_cons_zero, List.set_cons_succ]
      refine anyE_take (i := 9) (v := ?_) 21 rfl rfl (by kernel_rfl) (by kernel_rfl) (by decide) (fun _ _ _ h => h) (by kernel_rfl) (by kernel_rfl) (.inl ⟨by rfl, fun u hu => ?_⟩) hS5 ?_
      rotate_left
      · (obtain ⟨u1, u2⟩ := R8S.cells hu; have u3 := HX.out.2 _ u2; go_simp; first | done | with_reducible rfl)
      simp only [Act.put, List.setIfInBounds_toArray, List.set_cons_zero, List.set_cons_succ]
      have k3 := hS5.1.val (i := 3) rfl
      have y3 := hS5.1.thawed 3
      refine anyE_one (i := 10) rfl (by kernel_rfl) rfl (fun K hK => ?_)
      go_simp
      refine hK.out _ _ (.inl rfl) (anyE_done (by kernel_rfl) ?_ _)
      clear hK
      have HL6 : Hid (Blk (w5.setCell ⟨o1, 3, none⟩ (.slice a5 (i + 1) c5)) o1 142 #[.int .i64 3, .int .i64 0, nilS, .slice a5 (i + 1) c5]) := hid (hS5.1.wrote 3 _)
      have HZ6 := hid ((((HZ.out.up hQ4)).below hB5 (by omega)).apart (a := ⟨o1, 3, none⟩) (show o ≠ o1 by omega) (.slice a5 (i + 1) c5))
      have HQ6 := hid (hO5.set (a := ⟨o1, 3, none⟩) (show o1 < o2 by omega) (.slice a5 (i + 1) c5))
      have HU6 := hid (hS5.2.setCell (a := ⟨o1, 3, none⟩) (show w.heap.size ≤ o1 by omega) (.slice a5 (i + 1) c5))
      clear hS hS4 hS5 k3 y3 hO4 hO5 hg5 hB5 hQ4 hz4 HB HX
      generalize w5.setCell ⟨o1, 3, none⟩ (.slice a5 (i + 1) c5) = w6 at *
      go_wp2_with fail
      go_roundw
      case rel => exact ⟨i + 1, a5, c5, by omega, by go_num, HL6, HZ6, HQ6, HU6⟩
      case measure => simp [intOf]; omega
    · obtain rfl : i = n := by omega
      have HQr : Hid (OwnQ 142 wr o2 (.slice ad i cp) (xs.map quadI)) := hid (by
        have := HQ.out
        rw [List.take_of_length_le (by rw [HN.out]; omega)] at this
        exact this)
      have k0 := HL.out.val (i := 0) rfl
      have k1 := HL.out.val (i := 1) rfl
      have k2 := HL.out.val (i := 2) rfl
      have k3 := HL.out.val (i := 3) rfl
      have z0 := HZ.out.val (i := 0) rfl
      have z1 := HZ.out.val (i := 1) rfl
      have z2 := HZ.out.val (i := 2) rfl
      have z3 := HZ.out.val (i := 3) rfl
      have y0 := HZ.out.thawed 0
      have y1 := HZ.out.thawed 1
      have y2 := HZ.out.thawed 2
      have y3 := HZ.out.thawed 3
      clear HQ
      go_wp2
      refine bodyPost_ret (v := itm 3 0 nilS (.slice ad i cp)) (results_cell_row rfl _ _ o 142 _ (0, 0) _ (by rfl) (blk_four HZ.out _ _ _ _) Tryz.underlying142 rfl (by kernel_rfl)) rfl ⟨.slice ad i cp, rfl, ?_, (((HU.out.setCell hlw _).setCell hlw _).setCell hlw _).setCell hlw _⟩
      refine itm_list ((((((HQr.out.set (a := ⟨o, 0, none⟩) (show o < o2 by omega) _).set (a := ⟨o, 1, none⟩) (show o < o2 by omega) _).set (a := ⟨o, 2, none⟩) (show o < o2 by omega) _).set (a := ⟨o, 3, none⟩) (show o < o2 by omega) _)).row (quadI_at _ 0 xs)) (by rw [List.length_map, HN.out]; exact hl)

end Go.Proofs.YtoaomjdpiealfaaGreatDoor
namespace Go.Proofs.YtoaomjdpiealfaaGreatDoor
open Go.RowKit Go.Sp
set_option maxHeartbeats 4000000
set_option maxRecDepth 20000

theorem r8Ints_ok (h : Nat → Int) (c : Int) (s : ByteArray) (v : Value) (xs : List Int) (w : World) (hB : Byt h) (c0 : 0 ≤ c) (c1 : c < 1000) (hs : Lab s) (hv : IntsAt w v xs) (hl : xs.length ≤ 1000) :
    Calls Tryz.prog 182 #[drw h c, .string s, v] w fun e w' => e = .returned (.tuple #[drw (absB h (txt s) (encInts xs)) (c + 1), .int .i64 0]) ∧ Up w w' := by
  have M1 := hid (fun w' (hU : Up w w') => r8List_ok v xs w' (hv.up hU) hl)
  have M2 := hid (fun w' (l : Value) (hU : Up w w') (hq : ItmAt w' 1 3 0 nilS l (encInts xs)) => r8Absorb_ok h c s 3 0 nilS l (encInts xs) w' hB c0 c1 hs hq.more.more.more.more.more (by rw [encInts_length]; omega) (encInts_byt xs))
  generalize absB h (txt s) (encInts xs) = H at *
  have HSz := hid (sizeTr h c)
  unfold drw at M2 ⊢
  generalize drwA h c = cs at *
  obtain ⟨av, nv, cv, rfl⟩ := ints_shape hv
  clear hB hs hv hl c0 c1
  obtain ⟨o, ho⟩ : ∃ o, w.heap.size = o := ⟨_, rfl⟩
  have HO := hid ho
  obtain ⟨o1, ho1⟩ : ∃ o1, o + 1 = o1 := ⟨_, rfl⟩
  have HO1 := hid ho1
  clear ho ho1
  go_enter Tryz.func182, Tryz.ntmps182
  go_wp2_with fail
  generalize hW : World.alloc _ _ = w0
  have HS0 : Hid (Blk w0 o 127 cs) := hid (by rw [← hW]; exact (Blk.new HO.out rfl).alloc _)
  have HZ0 : Hid (Blk w0 o1 127 (drwA zeroH 0)) := hid (by rw [← hW]; exact Blk.new (by have := HO.out; have := HO1.out; simp; omega) zero33)
  have HU0 : Hid (Up w w0) := hid (by rw [← hW]; exact ((Up.refl w).alloc _).alloc _)
  rw [HO.out, HO1.out]
  clear hW
  refine region_E (fun w' => Blk w' o 127 cs) 8 (by kernel_rfl) (HS0.out.up (Up.refl _).drew) fun hS => ?_
  refine anyE_take (i := 0) (v := .agg cs.toList.toArray) 8 rfl rfl (by kernel_rfl) (by kernel_rfl) (by decide) (fun _ _ _ h => h) (by kernel_rfl) (by kernel_rfl) (yieldsIf_load_mid (by rfl) 127 _ rfl o 0 rfl cs.toList _ (fun u hu => blk_range hu) Tryz.underlying127 rfl (by rw [Array.length_toList]; exact HSz.out)) hS ?_
  rw [Array.toArray_toList]
  simp only [Act.put, List.setIfInBounds_toArray, List.set_cons_zero, List.set_cons_succ]
  refine anyE_take (i := 1) (v := ?_) 9 rfl rfl (by kernel_rfl) (by kernel_rfl) (by decide) (fun _ _ _ h => h) (by kernel_rfl) (by kernel_rfl) (.inl ⟨by rfl, fun u hu => ?_⟩) hS ?_
  rotate_left
  · (go_simp; first | done | with_reducible rfl)
  simp only [Act.put, List.setIfInBounds_toArray, List.set_cons_zero, List.set_cons_succ]
  refine anyE_take (i := 2) (v := ?_) 10 rfl rfl (by kernel_rfl) (by kernel_rfl) (by decide) (fun _ _ _ h => h) (by kernel_rfl) (by kernel_rfl) (.inl ⟨by rfl, fun u hu => ?_⟩) hS ?_
  rotate_left
  · (go_simp; first | done | with_reducible rfl)
  simp only [Act.put, List.setIfInBounds_toArray, List.set_cons_zero, List.set_cons_succ]
  refine anyE_one (i := 3) rfl (by kernel_rfl) rfl (fun K hK => ?_)
  go_simp
  refine (M1.out _ (HU0.out.drew)).mono ?_
  rintro e w2 ⟨l2, rfl, hI2, hU2⟩
  dsimp only
  have hS2 := Blk.up hS hU2
  have hD2 := HU0.out.drew.trans hU2
  have hZ2 := (HZ0.out.up (Up.refl _).drew).up hU2
  refine hK.out _ _ (.inr hS2) ?_
  clear hK
  try simp only [Act.put, List.setIfInBounds_toArray, List.set_cons_zero, List.set_cons_succ]
  refine anyE_one (i := 4) rfl (by kernel_rfl) rfl (fun K hK => ?_)
  go_simp
  refine (M2.out _ l2 hD2 hI2).mono ?_
  rintro e w3 ⟨rfl, hU3⟩
  dsimp only
  have hS3 := Blk.up hS2 hU3
  have hD3 := hD2.trans hU3
  have hZ3 := hZ2.up hU3
  refine hK.out _ _ (.inr hS3) ?_
  clear hK
  try simp only [Act.put, List.setIfInBounds_toArray, List.set_cons_zero, List.set_cons_succ]
  refine anyE_take (i := 5) (v := ?_) 13 rfl rfl (by kernel_rfl) (by kernel_rfl) (by decide) (fun _ _ _ h => h) (by kernel_rfl) (by kernel_rfl) (.inl ⟨by rfl, fun u hu => ?_⟩) hS3 ?_
  rotate_left
  · (go_simp; first | done | with_reducible rfl)
  simp only [Act.put, List.setIfInBounds_toArray, List.set_cons_zero, List.set_cons_succ]
  refine anyE_take (i := 6) (v := ?_) 14 rfl rfl (by kernel_rfl) (by kernel_rfl) (by decide) (fun _ _ _ h => h) (by kernel_rfl) (by kernel_rfl) (.inl ⟨by rfl, fun u hu => ?_⟩) hS3 ?_
  rotate_left
  · (go_simp; first | done | with_reducible rfl)
  simp only [Act.put, List.setIfInBounds_toArray, List.set_cons_zero, List.set_cons_succ]
  refine anyE_one (i := 7) rfl (by kernel_rfl) rfl (fun K hK => ?_)
  refine op_store_row 127 _ _ rfl rfl o1 (drwA H (c + 1)) rfl rfl 127 (drwA zeroH 0) hZ3 (sizeTr _ _) (by rw [drwA_size, drwA_size]) (drwA_one _ _) ?_
  have hS4 : Blk (w3.setRow o1 (drwA H (c + 1))) o 127 cs := Blk.rowApart hS3 (by have := HO1.out; omega) _
  refine hK.out _ _ (.inr hS4) ?_
  clear hK
  refine anyE_one (i := 8) rfl (by kernel_rfl) rfl (fun K hK => ?_)
  go_simp
  refine hK.out _ _ (.inl rfl) (anyE_done (by kernel_rfl) ?_ _)
  clear hK
  go_wp2
  refine bodyPost_ret (v := .tuple #[.agg (drwA H (c + 1)), .int .i64 0]) (results_row_tmp Tryz.results182 _ _ o1 127 _ (0, 0) _ (by rfl) (hZ3.row _) Tryz.underlying127 rfl (sizeTr _ _)) rfl ⟨rfl, hD3.setRow (by have := HO.out; have := HO1.out; omega) _⟩

end Go.Proofs.YtoaomjdpiealfaaGreatDoor
namespace Go.Proofs.YtoaomjdpiealfaaGreatDoor
open Go.RowKit Go.Sp
set_option maxHeartbeats 4000000
set_option maxRecDepth 20000

/-- The cells of a writer: the transcript, and the error. -/
def wriA (h : Nat → Int) (c e : Int) : Array Value := (drwA h c).push (.int .i64 e)
theorem wriA_err (h : Nat → Int) (c e : Int) : (wriA h c e)[33]? = some (.int .i64 e) := by
  have : (drwA h c).size = 33 := drwA_size h c
  rw [wriA, Array.getElem?_push, if_pos (by rw [this])]
theorem wriA_drw (h : Nat → Int) (c e : Int) {j : Nat} (hj : j < 33) : (wriA h c e)[j]? = (drwA h c)[j]? := by
  have : (drwA h c).size = 33 := drwA_size h c
  rw [wriA, Array.getElem?_push, if_neg (by rw [this]; omega)]
theorem wriA_size (h : Nat → Int) (c e : Int) : (wriA h c e).size = 34 := by simp [wriA, drwA_size]
theorem wri_range {w : World} {b : Nat} {t : TypeId} {h : Nat → Int} {c e : Int} (hb : Blk w b t (wriA h c e)) : w.rangeAt b 0 (drwA h c).toList := fun j v hv => by
  rw [Nat.zero_add, hb.read]
  have hj : j < 33 := by
    have := (List.getElem?_eq_some_iff.1 hv).1
    rw [Array.length_toList, drwA_size] at this
    exact this
  rw [wriA_drw _ _ _ hj, ← hv, Array.getElem?_toList]

theorem setCells_tail {g : Nat} {t : TypeId} (tail : List Value) : ∀ (cs pre post : List Value) (w : World), w.heap[g]? = some (.cells (pre ++ (post ++ tail)).toArray t (0, 0)) → post.length = cs.length →
    (w.setCells g pre.length cs).heap[g]? = some (.cells (pre ++ (cs ++ tail)).toArray t (0, 0))
  | [], pre, post, w, h, hl => by
    have : post = [] := List.length_eq_zero_iff.1 hl
    subst this
    exact h
  | v :: cs, pre, [], w, _, hl => by simp at hl
  | v :: cs, pre, p :: post, w, h, hl => by
    have h1 := heap_setCell_same w g pre.length _ t v h
    have e : ((pre ++ (p :: post ++ tail)).toArray.setIfInBounds pre.length v) = ((pre ++ [v]) ++ (post ++ tail)).toArray := by
      simp
    rw [e] at h1
    have := setCells_tail tail cs (pre ++ [v]) post _ h1 (by simpa using hl)
    rw [World.setCells]
    simpa using this

theorem wri_put {w : World} {b : Nat} {t : TypeId} {h h' : Nat → Int} {c c' e : Int} (hb : Blk w b t (wriA h c e)) : Blk (w.setCells b 0 (drwA h' c').toList) b t (wriA h' c' e) := by
  have e1 : wriA h c e = ([] ++ ((drwA h c).toList ++ [Value.int .i64 e])).toArray := by
    apply Array.toList_inj.1
    simp [wriA]
  have hb' : w.heap[b]? = some (.cells ([] ++ ((drwA h c).toList ++ [Value.int .i64 e])).toArray t (0, 0)) := by
    have h0 : w.heap[b]? = some (.cells (wriA h c e) t (0, 0)) := hb
    rw [h0, ← e1]
  have := setCells_tail (g := b) (t := t) [Value.int .i64 e] (drwA h' c').toList [] (drwA h c).toList w hb' (by rw [Array.length_toList, Array.length_toList, drwA_size, drwA_size])
  show (w.setCells b 0 (drwA h' c').toList).heap[b]? = some (.cells (wriA h' c' e) t (0, 0))
  have e2 : ([] ++ ((drwA h' c').toList ++ [Value.int .i64 e])).toArray = wriA h' c' e := by
    apply Array.toList_inj.1
    simp [wriA]
  rw [e2] at this
  exact this

theorem grown_sets {a : World} {b : Nat} : ∀ (cs : List Value) (i : Nat) {w : World}, a.grownBy w (some b) → a.grownBy (w.setCells b i cs) (some b)
  | [], _, _, h => h
  | v :: cs, i, w, h => by
    rw [World.setCells]
    exact grown_sets cs (i + 1) (grown_set h i v)

theorem wriA_zero (h : Nat → Int) (c : Int) : (wriA h c 0).setIfInBounds 33 (.int .i64 0) = wriA h c 0 := by
  apply Array.ext_getElem?
  intro j
  rw [Array.getElem?_setIfInBounds, wriA_size]
  by_cases hj : 33 = j
  · subst hj
    rw [if_pos rfl, if_pos (by omega), wriA_err]
  · rw [if_neg hj]

theorem wints_ok (h : Nat → Int) (c : Int) (s : ByteArray) (v : Value) (xs : List Int) (b : Nat) (w : World) (hT : TabS w) (hB : Byt h) (c0 : 0 ≤ c) (c1 : c < 999) (hs : Lab s) (hv : IntsAt w v xs) (hl : xs.length ≤ 1000) (hb : Blk w b 129 (wriA h c 0)) :
    Calls Tryz.prog 85 #[.pointer (some ⟨b, 0, none⟩), .string s, v] w fun e w' => e = .returned (.pointer (some ⟨b, 0, none⟩)) ∧ Blk w' b 129 (wriA (absB h (txt s) (encInts xs)) (c + 1) 0) ∧ w.grownBy w' (some b) := by
  have M := hid (fun w' (hU : Up w w') => tInts_ok h c s v xs w' (hT.up hU) hB c0 (by omega) hs (hv.up hU) hl)
  generalize absB h (txt s) (encInts xs) = H at *
  have hsd : (Tryz.prog.info? 127).map (·.size) = some (drwA h c).toList.length := by rw [Array.length_toList, drwA_size]; kernel_rfl
  have HSd := hid hsd
  have HSd2 := hid (sizeTr H (c + 1))
  obtain ⟨av, nv, cv, rfl⟩ := ints_shape hv
  have q33 := hb.val (wriA_err h c 0)
  have HB := hid hb
  unfold drw at M
  clear hT hB hs hv hl hsd hb
  go_enter Tryz.func85, Tryz.ntmps85
  go_wp2_with (refine wpList_load_mid rfl 127 _ rfl b 0 rfl (drwA h c).toList _ (wri_range HB.out) Tryz.underlying127 rfl HSd.out ?_; rw [Array.toArray_toList])
  refine (M.out _ (Up.refl _)).mono ?_
  rintro e w1 ⟨rfl, hU1⟩
  have HB1 := hid (HB.out.up hU1)
  have HG1 := hid (grown_up (b := b) hU1)
  clear hU1 q33
  have hB2 : Blk (w1.setCells b 0 (drwA H (c + 1)).toList) b 129 (wriA H (c + 1) 0) := wri_put HB1.out
  have hG2 := grown_sets (drwA H (c + 1)).toList 0 HG1.out
  have q33 := hB2.val (wriA_err H (c + 1) 0)
  have y33 := hB2.thawed 33
  have HB2 := hid hB2
  have HG2 := hid hG2
  have HTh := hid ((Blk.there HB1.out (n := 33) (by rw [wriA_size]; omega)))
  clear hB2 hG2
  go_wp2_with (refine wpList_store_mid rfl 127 _ _ rfl b 0 (drwA H (c + 1)) rfl rfl (by rw [drwA_size]; exact HTh.out) HSd2.out (drwA_one _ _) ?_)
  go_ret
  refine ⟨rfl, ?_, grown_set HG2.out 33 _⟩
  have := HB2.out.wrote 33 (.int .i64 0)
  rw [wriA_zero] at this
  exact this

theorem wbytes_ok (h : Nat → Int) (c : Int) (s : ByteArray) (v : Value) (xs : List Int) (b : Nat) (w : World) (hT : TabS w) (hB : Byt h) (c0 : 0 ≤ c) (c1 : c < 999) (hs : Lab s) (hv : SeqAt .u8 w v xs) (hl : xs.length ≤ 1000) (hx : ∀ x ∈ xs, 0 ≤ x ∧ x ≤ 255) (hb : Blk w b 129 (wriA h c 0)) :
    Calls Tryz.prog 86 #[.pointer (some ⟨b, 0, none⟩), .string s, v] w fun e w' => e = .returned (.pointer (some ⟨b, 0, none⟩)) ∧ Blk w' b 129 (wriA (absB h (txt s) (encBytes xs)) (c + 1) 0) ∧ w.grownBy w' (some b) := by
  have M := hid (fun w' (hU : Up w w') => tAbsorb_ok h c s 2 0 v nilS (encBytes xs) w' (hT.up hU) hB c0 (by omega) hs (itm_bytes (hv.up hU) (by omega) hx 6) (by rw [encBytes_length]; omega) (encBytes_byt hx))
  generalize absB h (txt s) (encBytes xs) = H at *
  have hsd : (Tryz.prog.info? 127).map (·.size) = some (drwA h c).toList.length := by rw [Array.length_toList, drwA_size]; kernel_rfl
  have HSd := hid hsd
  have HSd2 := hid (sizeTr H (c + 1))
  obtain ⟨av, cv, rfl, _, _⟩ := hv.shape
  have q33 := hb.val (wriA_err h c 0)
  have HB := hid hb
  unfold drw at M
  clear hT hB hs hv hl hx hsd hb
  go_enter Tryz.func86, Tryz.ntmps86
  go_wp2_with (refine wpList_load_mid rfl 127 _ rfl b 0 rfl (drwA h c).toList _ (wri_range HB.out) Tryz.underlying127 rfl HSd.out ?_; rw [Array.toArray_toList])
  refine (M.out _ (Up.refl _)).mono ?_
  rintro e w1 ⟨rfl, hU1⟩
  have HB1 := hid (HB.out.up hU1)
  have HG1 := hid (grown_up (b := b) hU1)
  clear hU1 q33
  have hB2 : Blk (w1.setCells b 0 (drwA H (c + 1)).toList) b 129 (wriA H (c + 1) 0) := wri_put HB1.out
  have hG2 := grown_sets (drwA H (c + 1)).toList 0 HG1.out
  have q33 := hB2.val (wriA_err H (c + 1) 0)
  have y33 := hB2.thawed 33
  have HB2 := hid hB2
  have HG2 := hid hG2
  have HTh := hid ((Blk.there HB1.out (n := 33) (by rw [wriA_size]; omega)))
  clear hB2 hG2
  go_wp2_with (refine wpList_store_mid rfl 127 _ _ rfl b 0 (drwA H (c + 1)) rfl rfl (by rw [drwA_size]; exact HTh.out) HSd2.out (drwA_one _ _) ?_)
  go_ret
  refine ⟨rfl, ?_, grown_set HG2.out 33 _⟩
  have := HB2.out.wrote 33 (.int .i64 0)
  rw [wriA_zero] at this
  exact this

end Go.Proofs.YtoaomjdpiealfaaGreatDoor
namespace Go.Sp
open Go.RowKit

section
variable {P : Program} {ops : Array Oper} {Q : Exit → Act → World → Prop} {S : World → Prop} {last : Nat}

/-- What is to be shown of one operation that may come up. -/
def anyE_up (P : Program) (ops : Array Oper) (Q : Exit → Act → World → Prop) (S : World → Prop) (last n : Nat) (listed : Array Bool) (a : Act) (w : World) (i : Nat) : Prop :=
  ∃ o, ops[i]? = some o ∧ o.guard = none ∧ ∀ K : Act → World → Prop, Hid (∀ b u, (i = last ∨ S u) → anyE P ops Q S last n (listed.setIfInBounds i true) b u → K b u) → o.wp P a w K Q

theorem anyE_all {n : Nat} {listed : Array Bool} {a : Act} {w : World} (l : List Nat) (hr : Region.ready .any ops listed = l) (hl : l ≠ []) (h : ∀ i ∈ l, anyE_up P ops Q S last n listed a w i) : anyE P ops Q S last (n + 1) listed a w := by
  refine ⟨fun h0 => absurd (hr.symm.trans h0) hl, fun j hj => ?_⟩
  rw [hr] at hj
  obtain ⟨o, ho, hg, h⟩ := h j hj
  unfold wpOp
  simp only [ho]
  rw [if_pos (by simp [Region.wanted, hg])]
  exact .inl (h _ (hid fun b u hS k => ⟨hS, k⟩))

theorem anyE_two {n : Nat} {listed : Array Bool} {a : Act} {w : World} (i j : Nat) (hr : Region.ready .any ops listed = [i, j]) (hi : anyE_up P ops Q S last n listed a w i) (hj : anyE_up P ops Q S last n listed a w j) : anyE P ops Q S last (n + 1) listed a w :=
  anyE_all [i, j] hr (by simp) fun k hk => by
    simp only [List.mem_cons, List.not_mem_nil, or_false] at hk
    rcases hk with rfl | rfl
    · exact hi
    · exact hj
theorem anyE_three {n : Nat} {listed : Array Bool} {a : Act} {w : World} (i j k : Nat) (hr : Region.ready .any ops listed = [i, j, k]) (hi : anyE_up P ops Q S last n listed a w i) (hj : anyE_up P ops Q S last n listed a w j) (hk : anyE_up P ops Q S last n listed a w k) : anyE P ops Q S last (n + 1) listed a w :=
  anyE_all [i, j, k] hr (by simp) fun x hx => by
    simp only [List.mem_cons, List.not_mem_nil, or_false] at hx
    rcases hx with rfl | rfl | rfl
    · exact hi
    · exact hj
    · exact hk
/-- What yields under S may be taken first, where S holds behind every operation. -/
theorem anyE_takeA {i : Nat} {o : Oper} {v : Value} (d : Tmp) (ho : ops[i]? = some o) (hd : o.dst = some d) (hs : Region.noSelect ops = true) (hla : ops.size ≤ last) (hQ : ∀ c a w, Q (.panic c) (a.put (some d) v) w → Q (.panic c) a w) :
    ∀ {n : Nat} {listed : Array Bool} {a : Act} {w : World}, Region.free .any ops listed i = true → (Region.ready .any ops listed).contains i = true → YieldsIf P ops S o v a → S w →
      anyE P ops Q S last n (listed.setIfInBounds i true) (a.put (some d) v) w → anyE P ops Q S last (n + 1) listed a w := by
  rw [← hd] at hQ ⊢
  intro n
  have key : ∀ (n : Nat) (listed : Array Bool) (a : Act) (w : World), (∀ j oj, ops[j]? = some oj → j ≠ i → listed.getD j true = false → (∀ e ∈ oj.after, Region.binds .any e = true → e.on ≠ i) → o.apart ops oj = true) → i ∈ Region.ready .any ops listed → YieldsIf P ops S o v a → S w →
      anyE P ops Q S last n (listed.setIfInBounds i true) (a.put o.dst v) w → anyE P ops Q S last (n + 1) listed a w := by
    intro n
    induction n with
    | zero =>
      intro listed a w _ hr hy hS h
      refine ⟨fun h0 => absurd hr (by rw [h0]; simp), fun j hj => ?_⟩
      by_cases hji : j = i
      · subst hji
        exact hy.wpOp ho hS ⟨.inr hS, h⟩
      · exact absurd (ready_mono hj hji) (by rw [h.1]; simp)
    | succ n ih =>
      intro listed a w hf hr hy hS h
      refine ⟨fun h0 => absurd hr (by rw [h0]; simp), fun j hj => ?_⟩
      by_cases hji : j = i
      · subst hji
        exact hy.wpOp ho hS ⟨.inr hS, h⟩
      have hun := (mem_ready.1 hr).1
      obtain ⟨hju, oj, hoj, hall⟩ := mem_ready.1 hj
      have hjl : j ≠ last := fun hl => by
        have := (Array.getElem?_eq_some_iff.1 hoj).1
        omega
      have hno : ∀ e ∈ oj.after, Region.binds .any e = true → e.on ≠ i := fun e hm hb hx => by
        have := hall e hm hb
        rw [hx, unlisted hun] at this
        cases this
      have hstep := wpOp_putIf hoj (hf j oj hoj hji hju hno) (fun cs b => Region.noSelect_spec hs i o cs b ho) (fun cs b => Region.noSelect_spec hs j oj cs b hoj) hQ hy (h.2 j (ready_mono hj hji))
      refine wpOp_mono (fun b u k => ?_) hstep
      obtain ⟨hy2, hSu, hrest⟩ := k
      have hSu' : S u := by
        rcases hSu with hSu | hSu
        · exact absurd hSu hjl
        · exact hSu
      refine ⟨.inr hSu', ih _ b u (fun k ok hk hki hku hkn => hf k ok hk hki ?_ hkn) (ready_mono hr (Ne.symm hji)) hy2 hSu' ?_⟩
      · by_cases hjk : j = k
        · subst hjk; exact hju
        · rw [getD_set_ne true hjk] at hku; exact hku
      · rw [Array.setIfInBounds_comm _ _ hji]
        exact hrest
  intro listed a w hf hr hy hS h
  exact key n listed a w (fun j oj h1 h2 h3 h4 => Region.free_spec ho hf j oj h1 h2 h3 h4) (by simpa using hr) hy hS h

end
end Go.Sp
namespace Go.Proofs.YtoaomjdpiealfaaGreatDoor
open Go.RowKit Go.Sp
set_option maxHeartbeats 8000000
set_option maxRecDepth 20000

theorem sigCheck_any (P Q G : Int) (v : Value) (xs : List Int) (w : World) (hP : -9223372036854775808 ≤ P) (hQ : Q ≤ 9223372036854775807) (hT : Tab w) (hv : IntsAt w v xs) :
    Calls Tryz.prog 28 #[grp P Q G, v] w fun e w' => e = .returned (.int .i64 (chkI P Q G xs)) ∧ Up w w' := by
  have HT := hid hT
  obtain ⟨E, hE⟩ : ∃ E, chkI P Q G xs = E := ⟨_, rfl⟩
  have HE : Hid (E = if gvB P Q G = true then (if xs.all (elB P Q) = true then 0 else 2) else 1) := hid hE.symm
  rw [hE]
  obtain ⟨l1, a1, cp1, rfl, hc1⟩ := hv
  have HC1 := hid hc1
  obtain ⟨n, hn⟩ : ∃ n, xs.length = n := ⟨_, rfl⟩
  have HN := hid hn
  rw [hn] at l1
  rw [hn]
  clear hc1 hn hT hE
  go_enter Tryz.func28, Tryz.ntmps28
  go_wp2_with fail
  refine (Valid_any P Q G _ hP hQ (HT.out.up ((Up.refl w).alloc _))).mono ?_
  rintro e w1 ⟨rfl, hU1⟩
  have HG1 := hid (box_reads rfl hU1)
  have HU1 := hid (((Up.refl w).alloc _).trans hU1)
  clear hU1
  obtain ⟨o, ho⟩ : ∃ o, w.heap.size = o := ⟨_, rfl⟩
  rw [ho] at HG1
  rw [ho]
  clear ho
  by_cases hg : gvB P Q G = true
  case neg =>
    have hE : E = 1 := by rw [HE.out, if_neg hg]
    have hg' : gvB P Q G = false := by simpa using hg
    subst hE
    rw [hg']
    clear hg hg'
    go_wp2
    go_ret
    exact ⟨rfl, HU1.out⟩
  have HE1 : Hid (E = if xs.all (elB P Q) = true then 0 else 2) := hid (by rw [HE.out, if_pos hg])
  have HCon : Hid (∀ x, conB P Q G x = elB P Q x) := hid (fun x => by rw [conB, hg]; rfl)
  rw [hg]
  clear hg HE
  go_wp2_with fail
  go_loopw [12] (fun vi wr => ∃ i : Nat, i ≤ n ∧ vi = .int .i64 i ∧ Hid (∀ j, j < i → (elB P Q) (xs.getD j 0) = true) ∧ Hid (Up w wr) ∧ Hid (GrpAt wr o P Q G)) (fun vi _ => n - (intOf vi).toNat)
  case atStart => exact ⟨0, by omega, rfl, hid (fun j hj => by omega), HU1, HG1⟩
  case round =>
    clear HU1 HG1
    obtain ⟨i, hi, rfl, HG, HU, HGr⟩ := hrel
    obtain ⟨c0, c1, c2⟩ := HGr.out
    by_cases hl : i < n
    · have hl1 : i < xs.length := by rw [HN.out]; exact hl
      obtain ⟨b1, o1, rfl, k1⟩ := ints_cell HC1.out HU.out hl1
      have HBi : Hid (elB P Q (xs.getD i 0) = false → E = 2) := hid (fun h => by rw [HE1.out, if_neg (by rw [not_all (xs := xs) (p := elB P Q) hl1 h]; decide)])
      have HS : Hid ((elB P Q) (xs.getD i 0) = true → ∀ j, j < i + 1 → (elB P Q) (xs.getD j 0) = true) := hid (fun h j hj => by
        rcases Nat.lt_or_ge j i with h3 | h3
        · exact HG.out j h3
        · obtain rfl : j = i := by omega
          exact h)
      clear hl1 HG
      generalize xs.getD i 0 = x at *
      go_wp2_with fail
      refine (Contains_any P Q G x _ hP hQ (HT.out.up HU.out)).mono ?_
      rintro e w3 ⟨rfl, hU3⟩
      rw [HCon.out x]
      have HU3 := hid (HU.out.trans hU3)
      have HG3 := hid (HGr.out.up hU3)
      clear hU3 c0 c1 c2
      by_cases hx : (elB P Q) x = true
      · have Hx := hid hx
        rw [hx]
        clear hx
        go_wp2_with fail
        go_roundw
        case rel => exact ⟨i + 1, by omega, by go_num, hid (HS.out Hx.out), HU3, HG3⟩
        case measure => simp [intOf]; omega
      · have hx' : (elB P Q) x = false := by simpa using hx
        obtain rfl := HBi.out hx'
        rw [hx']
        clear hx hx'
        go_wp2
        go_ret
        exact ⟨rfl, HU3.out⟩
    · obtain rfl : i = n := by omega
      have hX : E = 0 := by rw [HE1.out, if_pos (all_of (by rw [HN.out]; exact HG.out))]
      subst hX
      go_wp2
      go_ret
      exact ⟨rfl, HU.out⟩

def lbS : ByteArray := { data := #[115, 105, 103, 110, 97, 116, 117, 114, 101] }
def lbG : ByteArray := { data := #[103, 114, 111, 117, 112] }
def lbK : ByteArray := { data := #[107, 101, 121] }
def lbR : ByteArray := { data := #[99, 111, 109, 109, 105, 116, 109, 101, 110, 116] }
def lbM : ByteArray := { data := #[109, 101, 115, 115, 97, 103, 101] }
def lbC : ByteArray := { data := #[99, 104, 97, 108, 108, 101, 110, 103, 101] }
theorem labS : Lab lbS := ⟨by decide, by decide, by decide⟩
theorem labG : Lab lbG := ⟨by decide, by decide, by decide⟩
theorem labK : Lab lbK := ⟨by decide, by decide, by decide⟩
theorem labR : Lab lbR := ⟨by decide, by decide, by decide⟩
theorem labM : Lab lbM := ⟨by decide, by decide, by decide⟩
theorem labC : Lab lbC := ⟨by decide, by decide, by decide⟩
theorem sigC_lab (P Q G r y : Int) (m : List Int) : sigC P Q G r y m = chalN (absB (absB (absB (absB (trNew (txt lbS)) (txt lbG) (encInts [P, Q, G])) (txt lbK) (encInts [y])) (txt lbR) (encInts [r])) (txt lbM) (encBytes (hList (shaB m)))) (txt lbC) Q := by
  have e1 : txt lbS = lbSig := by decide
  have e2 : txt lbG = lbGroup := by decide
  have e3 : txt lbK = lbKey := by decide
  have e4 : txt lbR = lbComm := by decide
  have e5 : txt lbM = lbMsg := by decide
  have e6 : txt lbC = lbChal := by decide
  rw [e1, e2, e3, e4, e5, e6]
  rfl
theorem absB_byt (h : Nat → Int) (l e : List Int) : Byt (absB h l e) := tagB_range _ _
theorem trNew_byt (l : List Int) : Byt (trNew l) := tagB_range _ _

theorem zero34 : #[.int .u8 0, .int .u8 0, .int .u8 0, .int .u8 0, .int .u8 0, .int .u8 0, .int .u8 0, .int .u8 0, .int .u8 0, .int .u8 0, .int .u8 0, .int .u8 0, .int .u8 0, .int .u8 0, .int .u8 0, .int .u8 0, .int .u8 0, .int .u8 0, .int .u8 0, .int .u8 0, .int .u8 0, .int .u8 0, .int .u8 0, .int .u8 0, .int .u8 0, .int .u8 0, .int .u8 0, .int .u8 0, .int .u8 0, .int .u8 0, .int .u8 0, .int .u8 0, .int .i64 0, .int .i64 0] = wriA zeroH 0 0 := by kernel_rfl

theorem grp_row {w : World} {g k : Nat} {P Q G : Int} {cs : Array Value} (h : GrpAt w g P Q G) (hk : g ≠ k) : GrpAt (w.setRow k cs) g P Q G := by
  obtain ⟨c0, c1, c2⟩ := h
  have e := setRow_other w k g cs hk
  exact ⟨by rw [World.cell?_of_block (w := w) e]; exact c0, by rw [World.cell?_of_block (w := w) e]; exact c1, by rw [World.cell?_of_block (w := w) e]; exact c2⟩

theorem grp_grown {w w' : World} {g b : Nat} {P Q G : Int} (h : GrpAt w g P Q G) (hg : w.grownBy w' (some b)) (hne : g ≠ b) : GrpAt w' g P Q G := by
  obtain ⟨c0, c1, c2⟩ := h
  have hk := hg.block g (cell_lt c0) (fun e => hne (by injection e))
  exact ⟨by rw [World.cell?_of_block (w := w) hk]; exact c0, by rw [World.cell?_of_block (w := w) hk]; exact c1, by rw [World.cell?_of_block (w := w) hk]; exact c2⟩

theorem sigChallenge_ok (P Q G r y : Int) (v : Value) (m : List Int) (w : World) (hT : Tab w) (hS : TabS w) (hg : gvB P Q G = true) (hr : elB P Q r = true) (hy : elB P Q y = true) (hv : SeqAt .u8 w v m) (hl : m.length ≤ 16384) (hm : ∀ x ∈ m, 0 ≤ x ∧ x ≤ 255) :
    Calls Tryz.prog 35 #[grp P Q G, .int .i64 r, .int .i64 y, v] w fun e w' => e = .returned (.tuple #[.int .i64 (sigC P Q G r y m), .int .i64 0]) ∧ Up w w' := by
  have g := gv_iff.1 hg
  have g1 := g.P61
  have g2 := g.P4
  have g3 := g.Q3
  have g4 := g.QP
  have M1 := hid (fun w' (v' : Value) (hU : Up w w') (hv' : IntsAt w' v' [r, y]) => sigCheck_any P Q G v' [r, y] w' (by omega) (by omega) (hT.up hU) hv')
  rw [show chkI P Q G [r, y] = 0 from chkI_ok hg (by simp [hr, hy])] at M1
  have M2 := hid (fun w' (hU : Up w w') => Sum_any v m w' (hS.up hU) (hv.up hU) (by omega) hm)
  have M3 := hid (fun w' (hU : Up w w') => tNew_ok lbS w' (hS.up hU) labS)
  have HV := hid (sigC_lab P Q G r y m)
  have HDb : Hid (Byt (shaB m)) := hid (shaB_range m)
  generalize sigC P Q G r y m = V at *
  generalize shaB m = D at *
  have HT0 := hid (trNew_byt (txt lbS))
  generalize trNew (txt lbS) = T0 at *
  have HS := hid hS
  obtain ⟨va, vc, rfl, _, _⟩ := hv.shape
  obtain ⟨n, hn⟩ : ∃ n, m.length = n := ⟨_, rfl⟩
  rw [hn] at hl M2
  rw [hn]
  have dl : decide ((n : Int) > 16384) = false := by simp; omega
  have q0 : 2 ≤ Q := by omega
  have q1 : Q < 2305843009213693952 := by omega
  clear hT hS hg hr hy hv hm g g1 g2 g3 g4 hn
  obtain ⟨o, ho⟩ : ∃ o, w.heap.size = o := ⟨_, rfl⟩
  have HO := hid ho
  clear ho
  go_enter Tryz.func35, Tryz.ntmps35
  go_wp2_with fail
  refine (M1.out _ _ (((Up.refl w).alloc _).alloc _) (ints_two (by go_simp) (by go_simp))).mono ?_
  rintro e w1 ⟨rfl, hU1⟩
  have HA1 := hid ((((nums_three (w := w) (t := 23) HO.out).up ((Up.refl _).alloc _)).up hU1))
  have HU1 := hid ((((Up.refl w).alloc _).alloc _).trans hU1)
  rw [HO.out]
  clear hU1
  obtain ⟨c0, c1, c2⟩ := HA1.out
  go_wp2_with fail
  refine (M2.out _ HU1.out).mono ?_
  rintro e w2 ⟨rfl, hU2⟩
  have HA2 := hid (HA1.out.up hU2)
  have HU2 := hid (HU1.out.trans hU2)
  clear hU2 HA1 HU1 c0 c1 c2
  obtain ⟨c0, c1, c2⟩ := HA2.out
  have lo2 := cell_lt c0
  unfold hashV
  go_wp2_with (first
    | (refine wpList_store_rowTo rfl 55 _ _ rfl rfl _ _ rfl rfl 55 _ (heap_alloc_new _ _) (by rw [arrK_size]; kernel_rfl) (by rw [arrK_size]; rfl) arrK_one ?_; rw [World.setRow_alloc_new]))
  obtain ⟨oh, hoh⟩ : ∃ oh, w2.heap.size = oh := ⟨_, rfl⟩
  have HOh := hid hoh
  obtain ⟨b, hb⟩ : ∃ b, oh + 1 = b := ⟨_, rfl⟩
  have HBb := hid hb
  refine (M3.out _ ((HU2.out.alloc _).alloc _)).mono ?_
  rintro e w3 ⟨rfl, hU3⟩
  have HA3 := hid ((HA2.out.up (((Up.refl _).alloc _).alloc _)).up hU3)
  have HC3 : Hid (Blk w3 oh 55 (arrK .u8 D 32)) := hid (((Blk.new hoh rfl).alloc _).up hU3)
  have HW3 : Hid (Blk w3 b 129 (wriA zeroH 0 0)) := hid ((Blk.new (by simp [hoh, hb]) zero34).up hU3)
  have HU3 := hid (((HU2.out.alloc _).alloc _).trans hU3)
  rw [hoh, hb]
  have lob : o < oh := by omega
  have lwb : w.heap.size ≤ oh := by have := HU2.out.size; omega
  clear hU3 HA2 HU2 c0 c1 c2 lo2 hoh hb
  have hW4 : Blk (w3.setCells b 0 (drwA T0 0).toList) b 129 (wriA T0 0 0) := wri_put HW3.out
  have hG4 := grown_sets (b := b) (drwA T0 0).toList 0 (grown_up (b := b) (Up.refl w3))
  have q33 := hW4.val (wriA_err T0 0 0)
  have y33 := hW4.thawed 33
  have HTh := hid ((Blk.there HW3.out (n := 33) (by rw [wriA_size]; omega)))
  have HTz := hid (sizeTr T0 0)
  have HW4 := hid hW4
  have HG4 := hid hG4
  clear hW4 hG4
  unfold drw
  go_wp2_with (refine wpList_store_mid rfl 127 _ _ rfl b 0 (drwA T0 0) rfl rfl (by rw [drwA_size]; exact HTh.out) HTz.out (drwA_one _ _) ?_)
  have HG5 := hid (grown_set (b := b) HG4.out 33 (.int .i64 0))
  have HW5 : Hid (Blk ((w3.setCells b 0 (drwA T0 0).toList).setCell ⟨b, 33, none⟩ (.int .i64 0)) b 129 (wriA T0 0 0)) := hid (by
    have := HW4.out.wrote 33 (.int .i64 0)
    rwa [wriA_zero] at this)
  clear HW4 HG4 q33 y33 HTh
  generalize (w3.setCells b 0 (drwA T0 0).toList).setCell ⟨b, 33, none⟩ (.int .i64 0) = w4 at *
  have hne1 : o ≠ b := by have := HBb.out; omega
  have hne2 : oh ≠ b := by have := HBb.out; omega
  have lbw : w.heap.size ≤ b := by have := HBb.out; omega
  have HA4 : Hid (GrpAt w4 o P Q G) := hid (by
    obtain ⟨c0, c1, c2⟩ := HA3.out
    have hk := HG5.out.block o (cell_lt c0) (fun e => hne1 (by injection e))
    exact ⟨by rw [World.cell?_of_block (w := w3) hk]; exact c0, by rw [World.cell?_of_block (w := w3) hk]; exact c1, by rw [World.cell?_of_block (w := w3) hk]; exact c2⟩)
  have HC4 := hid (Blk.grownOut HC3.out HG5.out hne2)
  have HU4 := hid (Up.grownNew HU3.out HG5.out lbw)
  clear HA3 HC3 HW3 HU3 HG5
  have N1 := hid (fun w' (v' : Value) (hU : Up w w') (hv' : IntsAt w' v' [P, Q, G]) hb => wints_ok T0 0 lbG v' [P, Q, G] b w' (HS.out.up hU) HT0.out (by omega) (by omega) labG hv' (by simp) hb)
  have HT1 := hid (absB_byt T0 (txt lbG) (encInts [P, Q, G]))
  generalize absB T0 (txt lbG) (encInts [P, Q, G]) = T1 at *
  have N2 := hid (fun w' (v' : Value) (hU : Up w w') (hv' : IntsAt w' v' [y]) hb => wints_ok T1 1 lbK v' [y] b w' (HS.out.up hU) HT1.out (by omega) (by omega) labK hv' (by simp) hb)
  have HT2 := hid (absB_byt T1 (txt lbK) (encInts [y]))
  generalize absB T1 (txt lbK) (encInts [y]) = T2 at *
  have N3 := hid (fun w' (v' : Value) (hU : Up w w') (hv' : IntsAt w' v' [r]) hb => wints_ok T2 2 lbR v' [r] b w' (HS.out.up hU) HT2.out (by omega) (by omega) labR hv' (by simp) hb)
  have HT3 := hid (absB_byt T2 (txt lbR) (encInts [r]))
  generalize absB T2 (txt lbR) (encInts [r]) = T3 at *
  have N4 := hid (fun w' (v' : Value) (hU : Up w w') (hv' : SeqAt .u8 w' v' (hList D)) hb => wbytes_ok T3 3 lbM v' (hList D) b w' (HS.out.up hU) HT3.out (by omega) (by omega) labM hv' (by rw [hList_length]; omega) (hList_bytes HDb.out) hb)
  have HT4 := hid (absB_byt T3 (txt lbM) (encBytes (hList D)))
  generalize absB T3 (txt lbM) (encBytes (hList D)) = T4 at *
  have M5 := hid (fun w' (hU : Up w w') => tChallenge_ok T4 4 lbC Q w' (HS.out.up hU) HT4.out (by omega) (by omega) labC q0 q1)
  rw [← HV.out] at M5
  have HSq : Hid (∀ w', Blk w' oh 55 (arrK .u8 D 32) → SeqAt .u8 w' (.slice (some ⟨oh, 0, none⟩) 32 32) (hList D)) := hid (fun w' hb => seedAt hb (fun i hi => arrK_get hi))
  generalize arrK .u8 D 32 = cs at *
  clear HT0 HT1 HT2 HT3 HT4 HDb HV HS q0 q1
  go_cut [57] from 41 (fun vp w' => vp = .pointer (some ⟨b, 0, none⟩) ∧ Hid (Up w w') ∧ Hid (GrpAt w' o P Q G) ∧ Hid (Blk w' b 129 (wriA T4 4 0)))
  case first =>
    refine region_E (fun w' => GrpAt w' o P Q G) 17 (by kernel_rfl) (HA4.out.up (Up.refl _).drew) fun hS => ?_
    refine anyE_takeA (i := 0) (v := ?_) 41 rfl rfl (by kernel_rfl) (by decide) (fun _ _ _ h => h) (by kernel_rfl) (by kernel_rfl) (.inl ⟨by rfl, fun u hu => ?_⟩) hS ?_
    rotate_left
    · (obtain ⟨u0, u1, u2⟩ := hu; go_simp; first | done | with_reducible rfl)
    simp only [Act.put, List.setIfInBounds_toArray, List.set_cons_zero, List.set_cons_succ]
    refine anyE_takeA (i := 1) (v := ?_) 42 rfl rfl (by kernel_rfl) (by decide) (fun _ _ _ h => h) (by kernel_rfl) (by kernel_rfl) (.inl ⟨by rfl, fun u hu => ?_⟩) hS ?_
    rotate_left
    · (obtain ⟨u0, u1, u2⟩ := hu; go_simp; first | done | with_reducible rfl)
    simp only [Act.put, List.setIfInBounds_toArray, List.set_cons_zero, List.set_cons_succ]
    refine anyE_takeA (i := 2) (v := ?_) 43 rfl rfl (by kernel_rfl) (by decide) (fun _ _ _ h => h) (by kernel_rfl) (by kernel_rfl) (.inl ⟨by rfl, fun u hu => ?_⟩) hS ?_
    rotate_left
    · (obtain ⟨u0, u1, u2⟩ := hu; go_simp; first | done | with_reducible rfl)
    simp only [Act.put, List.setIfInBounds_toArray, List.set_cons_zero, List.set_cons_succ]
    refine anyE_takeA (i := 3) (v := ?_) 44 rfl rfl (by kernel_rfl) (by decide) (fun _ _ _ h => h) (by kernel_rfl) (by kernel_rfl) (.inl ⟨by rfl, fun u hu => ?_⟩) hS ?_
    rotate_left
    · (obtain ⟨u0, u1, u2⟩ := hu; go_simp; first | done | with_reducible rfl)
    simp only [Act.put, List.setIfInBounds_toArray, List.set_cons_zero, List.set_cons_succ]
    refine anyE_takeA (i := 4) (v := ?_) 45 rfl rfl (by kernel_rfl) (by decide) (fun _ _ _ h => h) (by kernel_rfl) (by kernel_rfl) (.inl ⟨by rfl, fun u hu => ?_⟩) hS ?_
    rotate_left
    · (obtain ⟨u0, u1, u2⟩ := hu; go_simp; first | done | with_reducible rfl)
    simp only [Act.put, List.setIfInBounds_toArray, List.set_cons_zero, List.set_cons_succ]
    refine anyE_takeA (i := 5) (v := ?_) 46 rfl rfl (by kernel_rfl) (by decide) (fun _ _ _ h => h) (by kernel_rfl) (by kernel_rfl) (.inl ⟨by rfl, fun u hu => ?_⟩) hS ?_
    rotate_left
    · (obtain ⟨u0, u1, u2⟩ := hu; go_simp; first | done | with_reducible rfl)
    simp only [Act.put, List.setIfInBounds_toArray, List.set_cons_zero, List.set_cons_succ]
    refine anyE_takeA (i := 6) (v := ?_) 47 rfl rfl (by kernel_rfl) (by decide) (fun _ _ _ h => h) (by kernel_rfl) (by kernel_rfl) (.inl ⟨by rfl, fun u hu => ?_⟩) hS ?_
    rotate_left
    · (obtain ⟨u0, u1, u2⟩ := hu; go_simp; first | done | with_reducible rfl)
    simp only [Act.put, List.setIfInBounds_toArray, List.set_cons_zero, List.set_cons_succ]
    refine anyE_takeA (i := 9) (v := ?_) 50 rfl rfl (by kernel_rfl) (by decide) (fun _ _ _ h => h) (by kernel_rfl) (by kernel_rfl) (.inl ⟨by rfl, fun u hu => ?_⟩) hS ?_
    rotate_left
    · (obtain ⟨u0, u1, u2⟩ := hu; go_simp; first | done | with_reducible rfl)
    simp only [Act.put, List.setIfInBounds_toArray, List.set_cons_zero, List.set_cons_succ]
    refine anyE_takeA (i := 12) (v := ?_) 53 rfl rfl (by kernel_rfl) (by decide) (fun _ _ _ h => h) (by kernel_rfl) (by kernel_rfl) (.inl ⟨by rfl, fun u hu => ?_⟩) hS ?_
    rotate_left
    · (obtain ⟨u0, u1, u2⟩ := hu; go_simp; first | done | with_reducible rfl)
    simp only [Act.put, List.setIfInBounds_toArray, List.set_cons_zero, List.set_cons_succ]
    refine anyE_takeA (i := 15) (v := ?_) 56 rfl rfl (by kernel_rfl) (by decide) (fun _ _ _ h => h) (by kernel_rfl) (by kernel_rfl) (.inl ⟨by rfl, fun u hu => ?_⟩) hS ?_
    rotate_left
    · (obtain ⟨u0, u1, u2⟩ := hu; go_simp; first | done | with_reducible rfl)
    simp only [Act.put, List.setIfInBounds_toArray, List.set_cons_zero, List.set_cons_succ]
    have hA : GrpAt w4.drew o P Q G := hS
    have hW := Blk.up HW5.out (Up.refl w4).drew
    have hC := Blk.up HC4.out (Up.refl w4).drew
    have hU := HU4.out.drew
    clear hS
    generalize w4.drew = v0 at *
    refine anyE_three 7 10 13 (by kernel_rfl) ⟨_, rfl, rfl, fun K hK => ?_⟩ ⟨_, rfl, rfl, fun K hK => ?_⟩ ⟨_, rfl, rfl, fun K hK => ?_⟩
    · go_simp
      obtain ⟨g7, hg7⟩ : ∃ g7, v0.heap.size = g7 := ⟨_, rfl⟩
      have hb7 : Blk (v0.alloc (.cells #[.int .i64 P, .int .i64 Q, .int .i64 G] 3)) g7 3 #[.int .i64 P, .int .i64 Q, .int .i64 G] := Blk.new hg7 rfl
      have hn7 : g7 ≠ b := by have := hW.lt; omega
      have hA := hA.up ((Up.refl v0).alloc (.cells #[.int .i64 P, .int .i64 Q, .int .i64 G] 3))
      have hW := hW.alloc (.cells #[.int .i64 P, .int .i64 Q, .int .i64 G] 3)
      have hC := hC.alloc (.cells #[.int .i64 P, .int .i64 Q, .int .i64 G] 3)
      have hU := hU.alloc (.cells #[.int .i64 P, .int .i64 Q, .int .i64 G] 3)
      rw [hg7]
      refine hK.out _ _ (.inr hA) ?_
      clear hK
      try simp only [Act.put, List.setIfInBounds_toArray, List.set_cons_zero, List.set_cons_succ]
      generalize (v0.alloc (.cells #[.int .i64 P, .int .i64 Q, .int .i64 G] 3)) = v1 at *
      refine anyE_three 8 10 13 (by kernel_rfl) ⟨_, rfl, rfl, fun K hK => ?_⟩ ⟨_, rfl, rfl, fun K hK => ?_⟩ ⟨_, rfl, rfl, fun K hK => ?_⟩
      · go_simp
        refine (N1.out _ _ hU (ints_three (hb7.val (i := 0) rfl) (hb7.val (i := 1) rfl) (hb7.val (i := 2) rfl)) hW).mono ?_
        rintro e v2 ⟨rfl, hWv2, hgv2⟩
        dsimp only
        have hA := grp_grown hA hgv2 hne1
        have hC := Blk.grownOut hC hgv2 hne2
        have hU := Up.grownNew hU hgv2 lbw
        have hW : Blk v2 b 129 (wriA T1 1 0) := hWv2
        refine hK.out _ _ (.inr hA) ?_
        clear hK
        try simp only [Act.put, List.setIfInBounds_toArray, List.set_cons_zero, List.set_cons_succ]
        refine anyE_two 10 13 (by kernel_rfl) ⟨_, rfl, rfl, fun K hK => ?_⟩ ⟨_, rfl, rfl, fun K hK => ?_⟩
        · go_simp
          obtain ⟨g10, hg10⟩ : ∃ g10, v2.heap.size = g10 := ⟨_, rfl⟩
          have hb10 : Blk (v2.alloc (.cells #[.int .i64 y] 3)) g10 3 #[.int .i64 y] := Blk.new hg10 rfl
          have hn10 : g10 ≠ b := by have := hW.lt; omega
          have hA := hA.up ((Up.refl v2).alloc (.cells #[.int .i64 y] 3))
          have hW := hW.alloc (.cells #[.int .i64 y] 3)
          have hC := hC.alloc (.cells #[.int .i64 y] 3)
          have hU := hU.alloc (.cells #[.int .i64 y] 3)
          rw [hg10]
          refine hK.out _ _ (.inr hA) ?_
          clear hK
          try simp only [Act.put, List.setIfInBounds_toArray, List.set_cons_zero, List.set_cons_succ]
          generalize (v2.alloc (.cells #[.int .i64 y] 3)) = v3 at *
          refine anyE_two 11 13 (by kernel_rfl) ⟨_, rfl, rfl, fun K hK => ?_⟩ ⟨_, rfl, rfl, fun K hK => ?_⟩
          · go_simp
            refine (N2.out _ _ hU (ints_one (hb10.val (i := 0) rfl)) hW).mono ?_
            rintro e v4 ⟨rfl, hWv4, hgv4⟩
            dsimp only
            have hA := grp_grown hA hgv4 hne1
            have hC := Blk.grownOut hC hgv4 hne2
            have hU := Up.grownNew hU hgv4 lbw
            have hW : Blk v4 b 129 (wriA T2 2 0) := hWv4
            refine hK.out _ _ (.inr hA) ?_
            clear hK
            try simp only [Act.put, List.setIfInBounds_toArray, List.set_cons_zero, List.set_cons_succ]
            refine anyE_one (i := 13) rfl (by kernel_rfl) rfl (fun K hK => ?_)
            go_simp
            obtain ⟨g13, hg13⟩ : ∃ g13, v4.heap.size = g13 := ⟨_, rfl⟩
            have hb13 : Blk (v4.alloc (.cells #[.int .i64 r] 3)) g13 3 #[.int .i64 r] := Blk.new hg13 rfl
            have hn13 : g13 ≠ b := by have := hW.lt; omega
            have hA := hA.up ((Up.refl v4).alloc (.cells #[.int .i64 r] 3))
            have hW := hW.alloc (.cells #[.int .i64 r] 3)
            have hC := hC.alloc (.cells #[.int .i64 r] 3)
            have hU := hU.alloc (.cells #[.int .i64 r] 3)
            rw [hg13]
            refine hK.out _ _ (.inr hA) ?_
            clear hK
            try simp only [Act.put, List.setIfInBounds_toArray, List.set_cons_zero, List.set_cons_succ]
            generalize (v4.alloc (.cells #[.int .i64 r] 3)) = v5 at *
            refine anyE_one (i := 14) rfl (by kernel_rfl) rfl (fun K hK => ?_)
            go_simp
            refine (N3.out _ _ hU (ints_one (hb13.val (i := 0) rfl)) hW).mono ?_
            rintro e v6 ⟨rfl, hWv6, hgv6⟩
            dsimp only
            have hA := grp_grown hA hgv6 hne1
            have hC := Blk.grownOut hC hgv6 hne2
            have hU := Up.grownNew hU hgv6 lbw
            have hW : Blk v6 b 129 (wriA T3 3 0) := hWv6
            refine hK.out _ _ (.inr hA) ?_
            clear hK
            try simp only [Act.put, List.setIfInBounds_toArray, List.set_cons_zero, List.set_cons_succ]
            refine anyE_one (i := 16) rfl (by kernel_rfl) rfl (fun K hK => ?_)
            go_simp
            refine (N4.out _ _ hU (HSq.out _ hC) hW).mono ?_
            rintro e v7 ⟨rfl, hWv7, hgv7⟩
            dsimp only
            have hA := grp_grown hA hgv7 hne1
            have hC := Blk.grownOut hC hgv7 hne2
            have hU := Up.grownNew hU hgv7 lbw
            have hW : Blk v7 b 129 (wriA T4 4 0) := hWv7
            refine hK.out _ _ (.inr hA) (anyE_done (by kernel_rfl) ?_ _)
            try simp only [Act.put, List.setIfInBounds_toArray, List.set_cons_zero, List.set_cons_succ]
            clear hK
            go_wp2_with fail
            go_meet
            exact ⟨rfl, hid hU, hid hA, hid hW⟩
          · go_simp
            obtain ⟨g13, hg13⟩ : ∃ g13, v3.heap.size = g13 := ⟨_, rfl⟩
            have hb13 : Blk (v3.alloc (.cells #[.int .i64 r] 3)) g13 3 #[.int .i64 r] := Blk.new hg13 rfl
            have hn13 : g13 ≠ b := by have := hW.lt; omega
            have hb10 := hb10.alloc (.cells #[.int .i64 r] 3)
            have hA := hA.up ((Up.refl v3).alloc (.cells #[.int .i64 r] 3))
            have hW := hW.alloc (.cells #[.int .i64 r] 3)
            have hC := hC.alloc (.cells #[.int .i64 r] 3)
            have hU := hU.alloc (.cells #[.int .i64 r] 3)
            rw [hg13]
            refine hK.out _ _ (.inr hA) ?_
            clear hK
            try simp only [Act.put, List.setIfInBounds_toArray, List.set_cons_zero, List.set_cons_succ]
            generalize (v3.alloc (.cells #[.int .i64 r] 3)) = v8 at *
            refine anyE_one (i := 11) rfl (by kernel_rfl) rfl (fun K hK => ?_)
            go_simp
            refine (N2.out _ _ hU (ints_one (hb10.val (i := 0) rfl)) hW).mono ?_
            rintro e v9 ⟨rfl, hWv9, hgv9⟩
            dsimp only
            have hb13 := Blk.grownOut hb13 hgv9 hn13
            have hA := grp_grown hA hgv9 hne1
            have hC := Blk.grownOut hC hgv9 hne2
            have hU := Up.grownNew hU hgv9 lbw
            have hW : Blk v9 b 129 (wriA T2 2 0) := hWv9
            refine hK.out _ _ (.inr hA) ?_
            clear hK
            try simp only [Act.put, List.setIfInBounds_toArray, List.set_cons_zero, List.set_cons_succ]
            refine anyE_one (i := 14) rfl (by kernel_rfl) rfl (fun K hK => ?_)
            go_simp
            refine (N3.out _ _ hU (ints_one (hb13.val (i := 0) rfl)) hW).mono ?_
            rintro e v10 ⟨rfl, hWv10, hgv10⟩
            dsimp only
            have hA := grp_grown hA hgv10 hne1
            have hC := Blk.grownOut hC hgv10 hne2
            have hU := Up.grownNew hU hgv10 lbw
            have hW : Blk v10 b 129 (wriA T3 3 0) := hWv10
            refine hK.out _ _ (.inr hA) ?_
            clear hK
            try simp only [Act.put, List.setIfInBounds_toArray, List.set_cons_zero, List.set_cons_succ]
            refine anyE_one (i := 16) rfl (by kernel_rfl) rfl (fun K hK => ?_)
            go_simp
            refine (N4.out _ _ hU (HSq.out _ hC) hW).mono ?_
            rintro e v11 ⟨rfl, hWv11, hgv11⟩
            dsimp only
            have hA := grp_grown hA hgv11 hne1
            have hC := Blk.grownOut hC hgv11 hne2
            have hU := Up.grownNew hU hgv11 lbw
            have hW : Blk v11 b 129 (wriA T4 4 0) := hWv11
            refine hK.out _ _ (.inr hA) (anyE_done (by kernel_rfl) ?_ _)
            try simp only [Act.put, List.setIfInBounds_toArray, List.set_cons_zero, List.set_cons_succ]
            clear hK
            go_wp2_with fail
            go_meet
            exact ⟨rfl, hid hU, hid hA, hid hW⟩
        · go_simp
          obtain ⟨g13, hg13⟩ : ∃ g13, v2.heap.size = g13 := ⟨_, rfl⟩
          have hb13 : Blk (v2.alloc (.cells #[.int .i64 r] 3)) g13 3 #[.int .i64 r] := Blk.new hg13 rfl
          have hn13 : g13 ≠ b := by have := hW.lt; omega
          have hA := hA.up ((Up.refl v2).alloc (.cells #[.int .i64 r] 3))
          have hW := hW.alloc (.cells #[.int .i64 r] 3)
          have hC := hC.alloc (.cells #[.int .i64 r] 3)
          have hU := hU.alloc (.cells #[.int .i64 r] 3)
          rw [hg13]
          refine hK.out _ _ (.inr hA) ?_
          clear hK
          try simp only [Act.put, List.setIfInBounds_toArray, List.set_cons_zero, List.set_cons_succ]
          generalize (v2.alloc (.cells #[.int .i64 r] 3)) = v12 at *
          refine anyE_one (i := 10) rfl (by kernel_rfl) rfl (fun K hK => ?_)
          go_simp
          obtain ⟨g10, hg10⟩ : ∃ g10, v12.heap.size = g10 := ⟨_, rfl⟩
          have hb10 : Blk (v12.alloc (.cells #[.int .i64 y] 3)) g10 3 #[.int .i64 y] := Blk.new hg10 rfl
          have hn10 : g10 ≠ b := by have := hW.lt; omega
          have hb13 := hb13.alloc (.cells #[.int .i64 y] 3)
          have hA := hA.up ((Up.refl v12).alloc (.cells #[.int .i64 y] 3))
          have hW := hW.alloc (.cells #[.int .i64 y] 3)
          have hC := hC.alloc (.cells #[.int .i64 y] 3)
          have hU := hU.alloc (.cells #[.int .i64 y] 3)
          rw [hg10]
          refine hK.out _ _ (.inr hA) ?_
          clear hK
          try simp only [Act.put, List.setIfInBounds_toArray, List.set_cons_zero, List.set_cons_succ]
          generalize (v12.alloc (.cells #[.int .i64 y] 3)) = v13 at *
          refine anyE_one (i := 11) rfl (by kernel_rfl) rfl (fun K hK => ?_)
          go_simp
          refine (N2.out _ _ hU (ints_one (hb10.val (i := 0) rfl)) hW).mono ?_
          rintro e v14 ⟨rfl, hWv14, hgv14⟩
          dsimp only
          have hb13 := Blk.grownOut hb13 hgv14 hn13
          have hA := grp_grown hA hgv14 hne1
          have hC := Blk.grownOut hC hgv14 hne2
          have hU := Up.grownNew hU hgv14 lbw
          have hW : Blk v14 b 129 (wriA T2 2 0) := hWv14
          refine hK.out _ _ (.inr hA) ?_
          clear hK
          try simp only [Act.put, List.setIfInBounds_toArray, List.set_cons_zero, List.set_cons_succ]
          refine anyE_one (i := 14) rfl (by kernel_rfl) rfl (fun K hK => ?_)
          go_simp
          refine (N3.out _ _ hU (ints_one (hb13.val (i := 0) rfl)) hW).mono ?_
          rintro e v15 ⟨rfl, hWv15, hgv15⟩
          dsimp only
          have hA := grp_grown hA hgv15 hne1
          have hC := Blk.grownOut hC hgv15 hne2
          have hU := Up.grownNew hU hgv15 lbw
          have hW : Blk v15 b 129 (wriA T3 3 0) := hWv15
          refine hK.out _ _ (.inr hA) ?_
          clear hK
          try simp only [Act.put, List.setIfInBounds_toArray, List.set_cons_zero, List.set_cons_succ]
          refine anyE_one (i := 16) rfl (by kernel_rfl) rfl (fun K hK => ?_)
          go_simp
          refine (N4.out _ _ hU (HSq.out _ hC) hW).mono ?_
          rintro e v16 ⟨rfl, hWv16, hgv16⟩
          dsimp only
          have hA := grp_grown hA hgv16 hne1
          have hC := Blk.grownOut hC hgv16 hne2
          have hU := Up.grownNew hU hgv16 lbw
          have hW : Blk v16 b 129 (wriA T4 4 0) := hWv16
          refine hK.out _ _ (.inr hA) (anyE_done (by kernel_rfl) ?_ _)
          try simp only [Act.put, List.setIfInBounds_toArray, List.set_cons_zero, List.set_cons_succ]
          clear hK
          go_wp2_with fail
          go_meet
          exact ⟨rfl, hid hU, hid hA, hid hW⟩
      · go_simp
        obtain ⟨g10, hg10⟩ : ∃ g10, v1.heap.size = g10 := ⟨_, rfl⟩
        have hb10 : Blk (v1.alloc (.cells #[.int .i64 y] 3)) g10 3 #[.int .i64 y] := Blk.new hg10 rfl
        have hn10 : g10 ≠ b := by have := hW.lt; omega
        have hb7 := hb7.alloc (.cells #[.int .i64 y] 3)
        have hA := hA.up ((Up.refl v1).alloc (.cells #[.int .i64 y] 3))
        have hW := hW.alloc (.cells #[.int .i64 y] 3)
        have hC := hC.alloc (.cells #[.int .i64 y] 3)
        have hU := hU.alloc (.cells #[.int .i64 y] 3)
        rw [hg10]
        refine hK.out _ _ (.inr hA) ?_
        clear hK
        try simp only [Act.put, List.setIfInBounds_toArray, List.set_cons_zero, List.set_cons_succ]
        generalize (v1.alloc (.cells #[.int .i64 y] 3)) = v17 at *
        refine anyE_two 8 13 (by kernel_rfl) ⟨_, rfl, rfl, fun K hK => ?_⟩ ⟨_, rfl, rfl, fun K hK => ?_⟩
        · go_simp
          refine (N1.out _ _ hU (ints_three (hb7.val (i := 0) rfl) (hb7.val (i := 1) rfl) (hb7.val (i := 2) rfl)) hW).mono ?_
          rintro e v18 ⟨rfl, hWv18, hgv18⟩
          dsimp only
          have hb10 := Blk.grownOut hb10 hgv18 hn10
          have hA := grp_grown hA hgv18 hne1
          have hC := Blk.grownOut hC hgv18 hne2
          have hU := Up.grownNew hU hgv18 lbw
          have hW : Blk v18 b 129 (wriA T1 1 0) := hWv18
          refine hK.out _ _ (.inr hA) ?_
          clear hK
          try simp only [Act.put, List.setIfInBounds_toArray, List.set_cons_zero, List.set_cons_succ]
          refine anyE_two 11 13 (by kernel_rfl) ⟨_, rfl, rfl, fun K hK => ?_⟩ ⟨_, rfl, rfl, fun K hK => ?_⟩
          · go_simp
            refine (N2.out _ _ hU (ints_one (hb10.val (i := 0) rfl)) hW).mono ?_
            rintro e v19 ⟨rfl, hWv19, hgv19⟩
            dsimp only
            have hA := grp_grown hA hgv19 hne1
            have hC := Blk.grownOut hC hgv19 hne2
            have hU := Up.grownNew hU hgv19 lbw
            have hW : Blk v19 b 129 (wriA T2 2 0) := hWv19
            refine hK.out _ _ (.inr hA) ?_
            clear hK
            try simp only [Act.put, List.setIfInBounds_toArray, List.set_cons_zero, List.set_cons_succ]
            refine anyE_one (i := 13) rfl (by kernel_rfl) rfl (fun K hK => ?_)
            go_simp
            obtain ⟨g13, hg13⟩ : ∃ g13, v19.heap.size = g13 := ⟨_, rfl⟩
            have hb13 : Blk (v19.alloc (.cells #[.int .i64 r] 3)) g13 3 #[.int .i64 r] := Blk.new hg13 rfl
            have hn13 : g13 ≠ b := by have := hW.lt; omega
            have hA := hA.up ((Up.refl v19).alloc (.cells #[.int .i64 r] 3))
            have hW := hW.alloc (.cells #[.int .i64 r] 3)
            have hC := hC.alloc (.cells #[.int .i64 r] 3)
            have hU := hU.alloc (.cells #[.int .i64 r] 3)
            rw [hg13]
            refine hK.out _ _ (.inr hA) ?_
            clear hK
            try simp only [Act.put, List.setIfInBounds_toArray, List.set_cons_zero, List.set_cons_succ]
            generalize (v19.alloc (.cells #[.int .i64 r] 3)) = v20 at *
            refine anyE_one (i := 14) rfl (by kernel_rfl) rfl (fun K hK => ?_)
            go_simp
            refine (N3.out _ _ hU (ints_one (hb13.val (i := 0) rfl)) hW).mono ?_
            rintro e v21 ⟨rfl, hWv21, hgv21⟩
            dsimp only
            have hA := grp_grown hA hgv21 hne1
            have hC := Blk.grownOut hC hgv21 hne2
            have hU := Up.grownNew hU hgv21 lbw
            have hW : Blk v21 b 129 (wriA T3 3 0) := hWv21
            refine hK.out _ _ (.inr hA) ?_
            clear hK
            try simp only [Act.put, List.setIfInBounds_toArray, List.set_cons_zero, List.set_cons_succ]
            refine anyE_one (i := 16) rfl (by kernel_rfl) rfl (fun K hK => ?_)
            go_simp
            refine (N4.out _ _ hU (HSq.out _ hC) hW).mono ?_
            rintro e v22 ⟨rfl, hWv22, hgv22⟩
            dsimp only
            have hA := grp_grown hA hgv22 hne1
            have hC := Blk.grownOut hC hgv22 hne2
            have hU := Up.grownNew hU hgv22 lbw
            have hW : Blk v22 b 129 (wriA T4 4 0) := hWv22
            refine hK.out _ _ (.inr hA) (anyE_done (by kernel_rfl) ?_ _)
            try simp only [Act.put, List.setIfInBounds_toArray, List.set_cons_zero, List.set_cons_succ]
            clear hK
            go_wp2_with fail
            go_meet
            exact ⟨rfl, hid hU, hid hA, hid hW⟩
          · go_simp
            obtain ⟨g13, hg13⟩ : ∃ g13, v18.heap.size = g13 := ⟨_, rfl⟩
            have hb13 : Blk (v18.alloc (.cells #[.int .i64 r] 3)) g13 3 #[.int .i64 r] := Blk.new hg13 rfl
            have hn13 : g13 ≠ b := by have := hW.lt; omega
            have hb10 := hb10.alloc (.cells #[.int .i64 r] 3)
            have hA := hA.up ((Up.refl v18).alloc (.cells #[.int .i64 r] 3))
            have hW := hW.alloc (.cells #[.int .i64 r] 3)
            have hC := hC.alloc (.cells #[.int .i64 r] 3)
            have hU := hU.alloc (.cells #[.int .i64 r] 3)
            rw [hg13]
            refine hK.out _ _ (.inr hA) ?_
            clear hK
            try simp only [Act.put, List.setIfInBounds_toArray, List.set_cons_zero, List.set_cons_succ]
            generalize (v18.alloc (.cells #[.int .i64 r] 3)) = v23 at *
            refine anyE_one (i := 11) rfl (by kernel_rfl) rfl (fun K hK => ?_)
            go_simp
            refine (N2.out _ _ hU (ints_one (hb10.val (i := 0) rfl)) hW).mono ?_
            rintro e v24 ⟨rfl, hWv24, hgv24⟩
            dsimp only
            have hb13 := Blk.grownOut hb13 hgv24 hn13
            have hA := grp_grown hA hgv24 hne1
            have hC := Blk.grownOut hC hgv24 hne2
            have hU := Up.grownNew hU hgv24 lbw
            have hW : Blk v24 b 129 (wriA T2 2 0) := hWv24
            refine hK.out _ _ (.inr hA) ?_
            clear hK
            try simp only [Act.put, List.setIfInBounds_toArray, List.set_cons_zero, List.set_cons_succ]
            refine anyE_one (i := 14) rfl (by kernel_rfl) rfl (fun K hK => ?_)
            go_simp
            refine (N3.out _ _ hU (ints_one (hb13.val (i := 0) rfl)) hW).mono ?_
            rintro e v25 ⟨rfl, hWv25, hgv25⟩
            dsimp only
            have hA := grp_grown hA hgv25 hne1
            have hC := Blk.grownOut hC hgv25 hne2
            have hU := Up.grownNew hU hgv25 lbw
            have hW : Blk v25 b 129 (wriA T3 3 0) := hWv25
            refine hK.out _ _ (.inr hA) ?_
            clear hK
            try simp only [Act.put, List.setIfInBounds_toArray, List.set_cons_zero, List.set_cons_succ]
            refine anyE_one (i := 16) rfl (by kernel_rfl) rfl (fun K hK => ?_)
            go_simp
            refine (N4.out _ _ hU (HSq.out _ hC) hW).mono ?_
            rintro e v26 ⟨rfl, hWv26, hgv26⟩
            dsimp only
            have hA := grp_grown hA hgv26 hne1
            have hC := Blk.grownOut hC hgv26 hne2
            have hU := Up.grownNew hU hgv26 lbw
            have hW : Blk v26 b 129 (wriA T4 4 0) := hWv26
            refine hK.out _ _ (.inr hA) (anyE_done (by kernel_rfl) ?_ _)
            try simp only [Act.put, List.setIfInBounds_toArray, List.set_cons_zero, List.set_cons_succ]
            clear hK
            go_wp2_with fail
            go_meet
            exact ⟨rfl, hid hU, hid hA, hid hW⟩
        · go_simp
          obtain ⟨g13, hg13⟩ : ∃ g13, v17.heap.size = g13 := ⟨_, rfl⟩
          have hb13 : Blk (v17.alloc (.cells #[.int .i64 r] 3)) g13 3 #[.int .i64 r] := Blk.new hg13 rfl
          have hn13 : g13 ≠ b := by have := hW.lt; omega
          have hb7 := hb7.alloc (.cells #[.int .i64 r] 3)
          have hb10 := hb10.alloc (.cells #[.int .i64 r] 3)
          have hA := hA.up ((Up.refl v17).alloc (.cells #[.int .i64 r] 3))
          have hW := hW.alloc (.cells #[.int .i64 r] 3)
          have hC := hC.alloc (.cells #[.int .i64 r] 3)
          have hU := hU.alloc (.cells #[.int .i64 r] 3)
          rw [hg13]
          refine hK.out _ _ (.inr hA) ?_
          clear hK
          try simp only [Act.put, List.setIfInBounds_toArray, List.set_cons_zero, List.set_cons_succ]
          generalize (v17.alloc (.cells #[.int .i64 r] 3)) = v27 at *
          refine anyE_one (i := 8) rfl (by kernel_rfl) rfl (fun K hK => ?_)
          go_simp
          refine (N1.out _ _ hU (ints_three (hb7.val (i := 0) rfl) (hb7.val (i := 1) rfl) (hb7.val (i := 2) rfl)) hW).mono ?_
          rintro e v28 ⟨rfl, hWv28, hgv28⟩
          dsimp only
          have hb10 := Blk.grownOut hb10 hgv28 hn10
          have hb13 := Blk.grownOut hb13 hgv28 hn13
          have hA := grp_grown hA hgv28 hne1
          have hC := Blk.grownOut hC hgv28 hne2
          have hU := Up.grownNew hU hgv28 lbw
          have hW : Blk v28 b 129 (wriA T1 1 0) := hWv28
          refine hK.out _ _ (.inr hA) ?_
          clear hK
          try simp only [Act.put, List.setIfInBounds_toArray, List.set_cons_zero, List.set_cons_succ]
          refine anyE_one (i := 11) rfl (by kernel_rfl) rfl (fun K hK => ?_)
          go_simp
          refine (N2.out _ _ hU (ints_one (hb10.val (i := 0) rfl)) hW).mono ?_
          rintro e v29 ⟨rfl, hWv29, hgv29⟩
          dsimp only
          have hb13 := Blk.grownOut hb13 hgv29 hn13
          have hA := grp_grown hA hgv29 hne1
          have hC := Blk.grownOut hC hgv29 hne2
          have hU := Up.grownNew hU hgv29 lbw
          have hW : Blk v29 b 129 (wriA T2 2 0) := hWv29
          refine hK.out _ _ (.inr hA) ?_
          clear hK
          try simp only [Act.put, List.setIfInBounds_toArray, List.set_cons_zero, List.set_cons_succ]
          refine anyE_one (i := 14) rfl (by kernel_rfl) rfl (fun K hK => ?_)
          go_simp
          refine (N3.out _ _ hU (ints_one (hb13.val (i := 0) rfl)) hW).mono ?_
          rintro e v30 ⟨rfl, hWv30, hgv30⟩
          dsimp only
          have hA := grp_grown hA hgv30 hne1
          have hC := Blk.grownOut hC hgv30 hne2
          have hU := Up.grownNew hU hgv30 lbw
          have hW : Blk v30 b 129 (wriA T3 3 0) := hWv30
          refine hK.out _ _ (.inr hA) ?_
          clear hK
          try simp only [Act.put, List.setIfInBounds_toArray, List.set_cons_zero, List.set_cons_succ]
          refine anyE_one (i := 16) rfl (by kernel_rfl) rfl (fun K hK => ?_)
          go_simp
          refine (N4.out _ _ hU (HSq.out _ hC) hW).mono ?_
          rintro e v31 ⟨rfl, hWv31, hgv31⟩
          dsimp only
          have hA := grp_grown hA hgv31 hne1
          have hC := Blk.grownOut hC hgv31 hne2
          have hU := Up.grownNew hU hgv31 lbw
          have hW : Blk v31 b 129 (wriA T4 4 0) := hWv31
          refine hK.out _ _ (.inr hA) (anyE_done (by kernel_rfl) ?_ _)
          try simp only [Act.put, List.setIfInBounds_toArray, List.set_cons_zero, List.set_cons_succ]
          clear hK
          go_wp2_with fail
          go_meet
          exact ⟨rfl, hid hU, hid hA, hid hW⟩
      · go_simp
        obtain ⟨g13, hg13⟩ : ∃ g13, v1.heap.size = g13 := ⟨_, rfl⟩
        have hb13 : Blk (v1.alloc (.cells #[.int .i64 r] 3)) g13 3 #[.int .i64 r] := Blk.new hg13 rfl
        have hn13 : g13 ≠ b := by have := hW.lt; omega
        have hb7 := hb7.alloc (.cells #[.int .i64 r] 3)
        have hA := hA.up ((Up.refl v1).alloc (.cells #[.int .i64 r] 3))
        have hW := hW.alloc (.cells #[.int .i64 r] 3)
        have hC := hC.alloc (.cells #[.int .i64 r] 3)
        have hU := hU.alloc (.cells #[.int .i64 r] 3)
        rw [hg13]
        refine hK.out _ _ (.inr hA) ?_
        clear hK
        try simp only [Act.put, List.setIfInBounds_toArray, List.set_cons_zero, List.set_cons_succ]
        generalize (v1.alloc (.cells #[.int .i64 r] 3)) = v32 at *
        refine anyE_two 8 10 (by kernel_rfl) ⟨_, rfl, rfl, fun K hK => ?_⟩ ⟨_, rfl, rfl, fun K hK => ?_⟩
        · go_simp
          refine (N1.out _ _ hU (ints_three (hb7.val (i := 0) rfl) (hb7.val (i := 1) rfl) (hb7.val (i := 2) rfl)) hW).mono ?_
          rintro e v33 ⟨rfl, hWv33, hgv33⟩
          dsimp only
          have hb13 := Blk.grownOut hb13 hgv33 hn13
          have hA := grp_grown hA hgv33 hne1
          have hC := Blk.grownOut hC hgv33 hne2
          have hU := Up.grownNew hU hgv33 lbw
          have hW : Blk v33 b 129 (wriA T1 1 0) := hWv33
          refine hK.out _ _ (.inr hA) ?_
          clear hK
          try simp only [Act.put, List.setIfInBounds_toArray, List.set_cons_zero, List.set_cons_succ]
          refine anyE_one (i := 10) rfl (by kernel_rfl) rfl (fun K hK => ?_)
          go_simp
          obtain ⟨g10, hg10⟩ : ∃ g10, v33.heap.size = g10 := ⟨_, rfl⟩
          have hb10 : Blk (v33.alloc (.cells #[.int .i64 y] 3)) g10 3 #[.int .i64 y] := Blk.new hg10 rfl
          have hn10 : g10 ≠ b := by have := hW.lt; omega
          have hb13 := hb13.alloc (.cells #[.int .i64 y] 3)
          have hA := hA.up ((Up.refl v33).alloc (.cells #[.int .i64 y] 3))
          have hW := hW.alloc (.cells #[.int .i64 y] 3)
          have hC := hC.alloc (.cells #[.int .i64 y] 3)
          have hU := hU.alloc (.cells #[.int .i64 y] 3)
          rw [hg10]
          refine hK.out _ _ (.inr hA) ?_
          clear hK
          try simp only [Act.put, List.setIfInBounds_toArray, List.set_cons_zero, List.set_cons_succ]
          generalize (v33.alloc (.cells #[.int .i64 y] 3)) = v34 at *
          refine anyE_one (i := 11) rfl (by kernel_rfl) rfl (fun K hK => ?_)
          go_simp
          refine (N2.out _ _ hU (ints_one (hb10.val (i := 0) rfl)) hW).mono ?_
          rintro e v35 ⟨rfl, hWv35, hgv35⟩
          dsimp only
          have hb13 := Blk.grownOut hb13 hgv35 hn13
          have hA := grp_grown hA hgv35 hne1
          have hC := Blk.grownOut hC hgv35 hne2
          have hU := Up.grownNew hU hgv35 lbw
          have hW : Blk v35 b 129 (wriA T2 2 0) := hWv35
          refine hK.out _ _ (.inr hA) ?_
          clear hK
          try simp only [Act.put, List.setIfInBounds_toArray, List.set_cons_zero, List.set_cons_succ]
          refine anyE_one (i := 14) rfl (by kernel_rfl) rfl (fun K hK => ?_)
          go_simp
          refine (N3.out _ _ hU (ints_one (hb13.val (i := 0) rfl)) hW).mono ?_
          rintro e v36 ⟨rfl, hWv36, hgv36⟩
          dsimp only
          have hA := grp_grown hA hgv36 hne1
          have hC := Blk.grownOut hC hgv36 hne2
          have hU := Up.grownNew hU hgv36 lbw
          have hW : Blk v36 b 129 (wriA T3 3 0) := hWv36
          refine hK.out _ _ (.inr hA) ?_
          clear hK
          try simp only [Act.put, List.setIfInBounds_toArray, List.set_cons_zero, List.set_cons_succ]
          refine anyE_one (i := 16) rfl (by kernel_rfl) rfl (fun K hK => ?_)
          go_simp
          refine (N4.out _ _ hU (HSq.out _ hC) hW).mono ?_
          rintro e v37 ⟨rfl, hWv37, hgv37⟩
          dsimp only
          have hA := grp_grown hA hgv37 hne1
          have hC := Blk.grownOut hC hgv37 hne2
          have hU := Up.grownNew hU hgv37 lbw
          have hW : Blk v37 b 129 (wriA T4 4 0) := hWv37
          refine hK.out _ _ (.inr hA) (anyE_done (by kernel_rfl) ?_ _)
          try simp only [Act.put, List.setIfInBounds_toArray, List.set_cons_zero, List.set_cons_succ]
          clear hK
          go_wp2_with fail
          go_meet
          exact ⟨rfl, hid hU, hid hA, hid hW⟩
        · go_simp
          obtain ⟨g10, hg10⟩ : ∃ g10, v32.heap.size = g10 := ⟨_, rfl⟩
          have hb10 : Blk (v32.alloc (.cells #[.int .i64 y] 3)) g10 3 #[.int .i64 y] := Blk.new hg10 rfl
          have hn10 : g10 ≠ b := by have := hW.lt; omega
          have hb7 := hb7.alloc (.cells #[.int .i64 y] 3)
          have hb13 := hb13.alloc (.cells #[.int .i64 y] 3)
          have hA := hA.up ((Up.refl v32).alloc (.cells #[.int .i64 y] 3))
          have hW := hW.alloc (.cells #[.int .i64 y] 3)
          have hC := hC.alloc (.cells #[.int .i64 y] 3)
          have hU := hU.alloc (.cells #[.int .i64 y] 3)
          rw [hg10]
          refine hK.out _ _ (.inr hA) ?_
          clear hK
          try simp only [Act.put, List.setIfInBounds_toArray, List.set_cons_zero, List.set_cons_succ]
          generalize (v32.alloc (.cells #[.int .i64 y] 3)) = v38 at *
          refine anyE_one (i := 8) rfl (by kernel_rfl) rfl (fun K hK => ?_)
          go_simp
          refine (N1.out _ _ hU (ints_three (hb7.val (i := 0) rfl) (hb7.val (i := 1) rfl) (hb7.val (i := 2) rfl)) hW).mono ?_
          rintro e v39 ⟨rfl, hWv39, hgv39⟩
          dsimp only
          have hb10 := Blk.grownOut hb10 hgv39 hn10
          have hb13 := Blk.grownOut hb13 hgv39 hn13
          have hA := grp_grown hA hgv39 hne1
          have hC := Blk.grownOut hC hgv39 hne2
          have hU := Up.grownNew hU hgv39 lbw
          have hW : Blk v39 b 129 (wriA T1 1 0) := hWv39
          refine hK.out _ _ (.inr hA) ?_
          clear hK
          try simp only [Act.put, List.setIfInBounds_toArray, List.set_cons_zero, List.set_cons_succ]
          refine anyE_one (i := 11) rfl (by kernel_rfl) rfl (fun K hK => ?_)
          go_simp
          refine (N2.out _ _ hU (ints_one (hb10.val (i := 0) rfl)) hW).mono ?_
          rintro e v40 ⟨rfl, hWv40, hgv40⟩
          dsimp only
          have hb13 := Blk.grownOut hb13 hgv40 hn13
          have hA := grp_grown hA hgv40 hne1
          have hC := Blk.grownOut hC hgv40 hne2
          have hU := Up.grownNew hU hgv40 lbw
          have hW : Blk v40 b 129 (wriA T2 2 0) := hWv40
          refine hK.out _ _ (.inr hA) ?_
          clear hK
          try simp only [Act.put, List.setIfInBounds_toArray, List.set_cons_zero, List.set_cons_succ]
          refine anyE_one (i := 14) rfl (by kernel_rfl) rfl (fun K hK => ?_)
          go_simp
          refine (N3.out _ _ hU (ints_one (hb13.val (i := 0) rfl)) hW).mono ?_
          rintro e v41 ⟨rfl, hWv41, hgv41⟩
          dsimp only
          have hA := grp_grown hA hgv41 hne1
          have hC := Blk.grownOut hC hgv41 hne2
          have hU := Up.grownNew hU hgv41 lbw
          have hW : Blk v41 b 129 (wriA T3 3 0) := hWv41
          refine hK.out _ _ (.inr hA) ?_
          clear hK
          try simp only [Act.put, List.setIfInBounds_toArray, List.set_cons_zero, List.set_cons_succ]
          refine anyE_one (i := 16) rfl (by kernel_rfl) rfl (fun K hK => ?_)
          go_simp
          refine (N4.out _ _ hU (HSq.out _ hC) hW).mono ?_
          rintro e v42 ⟨rfl, hWv42, hgv42⟩
          dsimp only
          have hA := grp_grown hA hgv42 hne1
          have hC := Blk.grownOut hC hgv42 hne2
          have hU := Up.grownNew hU hgv42 lbw
          have hW : Blk v42 b 129 (wriA T4 4 0) := hWv42
          refine hK.out _ _ (.inr hA) (anyE_done (by kernel_rfl) ?_ _)
          try simp only [Act.put, List.setIfInBounds_toArray, List.set_cons_zero, List.set_cons_succ]
          clear hK
          go_wp2_with fail
          go_meet
          exact ⟨rfl, hid hU, hid hA, hid hW⟩
    · go_simp
      obtain ⟨g10, hg10⟩ : ∃ g10, v0.heap.size = g10 := ⟨_, rfl⟩
      have hb10 : Blk (v0.alloc (.cells #[.int .i64 y] 3)) g10 3 #[.int .i64 y] := Blk.new hg10 rfl
      have hn10 : g10 ≠ b := by have := hW.lt; omega
      have hA := hA.up ((Up.refl v0).alloc (.cells #[.int .i64 y] 3))
      have hW := hW.alloc (.cells #[.int .i64 y] 3)
      have hC := hC.alloc (.cells #[.int .i64 y] 3)
      have hU := hU.alloc (.cells #[.int .i64 y] 3)
      rw [hg10]
      refine hK.out _ _ (.inr hA) ?_
      clear hK
      try simp only [Act.put, List.setIfInBounds_toArray, List.set_cons_zero, List.set_cons_succ]
      generalize (v0.alloc (.cells #[.int .i64 y] 3)) = v43 at *
      refine anyE_two 7 13 (by kernel_rfl) ⟨_, rfl, rfl, fun K hK => ?_⟩ ⟨_, rfl, rfl, fun K hK => ?_⟩
      · go_simp
        obtain ⟨g7, hg7⟩ : ∃ g7, v43.heap.size = g7 := ⟨_, rfl⟩
        have hb7 : Blk (v43.alloc (.cells #[.int .i64 P, .int .i64 Q, .int .i64 G] 3)) g7 3 #[.int .i64 P, .int .i64 Q, .int .i64 G] := Blk.new hg7 rfl
        have hn7 : g7 ≠ b := by have := hW.lt; omega
        have hb10 := hb10.alloc (.cells #[.int .i64 P, .int .i64 Q, .int .i64 G] 3)
        have hA := hA.up ((Up.refl v43).alloc (.cells #[.int .i64 P, .int .i64 Q, .int .i64 G] 3))
        have hW := hW.alloc (.cells #[.int .i64 P, .int .i64 Q, .int .i64 G] 3)
        have hC := hC.alloc (.cells #[.int .i64 P, .int .i64 Q, .int .i64 G] 3)
        have hU := hU.alloc (.cells #[.int .i64 P, .int .i64 Q, .int .i64 G] 3)
        rw [hg7]
        refine hK.out _ _ (.inr hA) ?_
        clear hK
        try simp only [Act.put, List.setIfInBounds_toArray, List.set_cons_zero, List.set_cons_succ]
        generalize (v43.alloc (.cells #[.int .i64 P, .int .i64 Q, .int .i64 G] 3)) = v44 at *
        refine anyE_two 8 13 (by kernel_rfl) ⟨_, rfl, rfl, fun K hK => ?_⟩ ⟨_, rfl, rfl, fun K hK => ?_⟩
        · go_simp
          refine (N1.out _ _ hU (ints_three (hb7.val (i := 0) rfl) (hb7.val (i := 1) rfl) (hb7.val (i := 2) rfl)) hW).mono ?_
          rintro e v45 ⟨rfl, hWv45, hgv45⟩
          dsimp only
          have hb10 := Blk.grownOut hb10 hgv45 hn10
          have hA := grp_grown hA hgv45 hne1
          have hC := Blk.grownOut hC hgv45 hne2
          have hU := Up.grownNew hU hgv45 lbw
          have hW : Blk v45 b 129 (wriA T1 1 0) := hWv45
          refine hK.out _ _ (.inr hA) ?_
          clear hK
          try simp only [Act.put, List.setIfInBounds_toArray, List.set_cons_zero, List.set_cons_succ]
          refine anyE_two 11 13 (by kernel_rfl) ⟨_, rfl, rfl, fun K hK => ?_⟩ ⟨_, rfl, rfl, fun K hK => ?_⟩
          · go_simp
            refine (N2.out _ _ hU (ints_one (hb10.val (i := 0) rfl)) hW).mono ?_
            rintro e v46 ⟨rfl, hWv46, hgv46⟩
            dsimp only
            have hA := grp_grown hA hgv46 hne1
            have hC := Blk.grownOut hC hgv46 hne2
            have hU := Up.grownNew hU hgv46 lbw
            have hW : Blk v46 b 129 (wriA T2 2 0) := hWv46
            refine hK.out _ _ (.inr hA) ?_
            clear hK
            try simp only [Act.put, List.setIfInBounds_toArray, List.set_cons_zero, List.set_cons_succ]
            refine anyE_one (i := 13) rfl (by kernel_rfl) rfl (fun K hK => ?_)
            go_simp
            obtain ⟨g13, hg13⟩ : ∃ g13, v46.heap.size = g13 := ⟨_, rfl⟩
            have hb13 : Blk (v46.alloc (.cells #[.int .i64 r] 3)) g13 3 #[.int .i64 r] := Blk.new hg13 rfl
            have hn13 : g13 ≠ b := by have := hW.lt; omega
            have hA := hA.up ((Up.refl v46).alloc (.cells #[.int .i64 r] 3))
            have hW := hW.alloc (.cells #[.int .i64 r] 3)
            have hC := hC.alloc (.cells #[.int .i64 r] 3)
            have hU := hU.alloc (.cells #[.int .i64 r] 3)
            rw [hg13]
            refine hK.out _ _ (.inr hA) ?_
            clear hK
            try simp only [Act.put, List.setIfInBounds_toArray, List.set_cons_zero, List.set_cons_succ]
            generalize (v46.alloc (.cells #[.int .i64 r] 3)) = v47 at *
            refine anyE_one (i := 14) rfl (by kernel_rfl) rfl (fun K hK => ?_)
            go_simp
            refine (N3.out _ _ hU (ints_one (hb13.val (i := 0) rfl)) hW).mono ?_
            rintro e v48 ⟨rfl, hWv48, hgv48⟩
            dsimp only
            have hA := grp_grown hA hgv48 hne1
            have hC := Blk.grownOut hC hgv48 hne2
            have hU := Up.grownNew hU hgv48 lbw
            have hW : Blk v48 b 129 (wriA T3 3 0) := hWv48
            refine hK.out _ _ (.inr hA) ?_
            clear hK
            try simp only [Act.put, List.setIfInBounds_toArray, List.set_cons_zero, List.set_cons_succ]
            refine anyE_one (i := 16) rfl (by kernel_rfl) rfl (fun K hK => ?_)
            go_simp
            refine (N4.out _ _ hU (HSq.out _ hC) hW).mono ?_
            rintro e v49 ⟨rfl, hWv49, hgv49⟩
            dsimp only
            have hA := grp_grown hA hgv49 hne1
            have hC := Blk.grownOut hC hgv49 hne2
            have hU := Up.grownNew hU hgv49 lbw
            have hW : Blk v49 b 129 (wriA T4 4 0) := hWv49
            refine hK.out _ _ (.inr hA) (anyE_done (by kernel_rfl) ?_ _)
            try simp only [Act.put, List.setIfInBounds_toArray, List.set_cons_zero, List.set_cons_succ]
            clear hK
            go_wp2_with fail
            go_meet
            exact ⟨rfl, hid hU, hid hA, hid hW⟩
          · go_simp
            obtain ⟨g13, hg13⟩ : ∃ g13, v45.heap.size = g13 := ⟨_, rfl⟩
            have hb13 : Blk (v45.alloc (.cells #[.int .i64 r] 3)) g13 3 #[.int .i64 r] := Blk.new hg13 rfl
            have hn13 : g13 ≠ b := by have := hW.lt; omega
            have hb10 := hb10.alloc (.cells #[.int .i64 r] 3)
            have hA := hA.up ((Up.refl v45).alloc (.cells #[.int .i64 r] 3))
            have hW := hW.alloc (.cells #[.int .i64 r] 3)
            have hC := hC.alloc (.cells #[.int .i64 r] 3)
            have hU := hU.alloc (.cells #[.int .i64 r] 3)
            rw [hg13]
            refine hK.out _ _ (.inr hA) ?_
            clear hK
            try simp only [Act.put, List.setIfInBounds_toArray, List.set_cons_zero, List.set_cons_succ]
            generalize (v45.alloc (.cells #[.int .i64 r] 3)) = v50 at *
            refine anyE_one (i := 11) rfl (by kernel_rfl) rfl (fun K hK => ?_)
            go_simp
            refine (N2.out _ _ hU (ints_one (hb10.val (i := 0) rfl)) hW).mono ?_
            rintro e v51 ⟨rfl, hWv51, hgv51⟩
            dsimp only
            have hb13 := Blk.grownOut hb13 hgv51 hn13
            have hA := grp_grown hA hgv51 hne1
            have hC := Blk.grownOut hC hgv51 hne2
            have hU := Up.grownNew hU hgv51 lbw
            have hW : Blk v51 b 129 (wriA T2 2 0) := hWv51
            refine hK.out _ _ (.inr hA) ?_
            clear hK
            try simp only [Act.put, List.setIfInBounds_toArray, List.set_cons_zero, List.set_cons_succ]
            refine anyE_one (i := 14) rfl (by kernel_rfl) rfl (fun K hK => ?_)
            go_simp
            refine (N3.out _ _ hU (ints_one (hb13.val (i := 0) rfl)) hW).mono ?_
            rintro e v52 ⟨rfl, hWv52, hgv52⟩
            dsimp only
            have hA := grp_grown hA hgv52 hne1
            have hC := Blk.grownOut hC hgv52 hne2
            have hU := Up.grownNew hU hgv52 lbw
            have hW : Blk v52 b 129 (wriA T3 3 0) := hWv52
            refine hK.out _ _ (.inr hA) ?_
            clear hK
            try simp only [Act.put, List.setIfInBounds_toArray, List.set_cons_zero, List.set_cons_succ]
            refine anyE_one (i := 16) rfl (by kernel_rfl) rfl (fun K hK => ?_)
            go_simp
            refine (N4.out _ _ hU (HSq.out _ hC) hW).mono ?_
            rintro e v53 ⟨rfl, hWv53, hgv53⟩
            dsimp only
            have hA := grp_grown hA hgv53 hne1
            have hC := Blk.grownOut hC hgv53 hne2
            have hU := Up.grownNew hU hgv53 lbw
            have hW : Blk v53 b 129 (wriA T4 4 0) := hWv53
            refine hK.out _ _ (.inr hA) (anyE_done (by kernel_rfl) ?_ _)
            try simp only [Act.put, List.setIfInBounds_toArray, List.set_cons_zero, List.set_cons_succ]
            clear hK
            go_wp2_with fail
            go_meet
            exact ⟨rfl, hid hU, hid hA, hid hW⟩
        · go_simp
          obtain ⟨g13, hg13⟩ : ∃ g13, v44.heap.size = g13 := ⟨_, rfl⟩
          have hb13 : Blk (v44.alloc (.cells #[.int .i64 r] 3)) g13 3 #[.int .i64 r] := Blk.new hg13 rfl
          have hn13 : g13 ≠ b := by have := hW.lt; omega
          have hb7 := hb7.alloc (.cells #[.int .i64 r] 3)
          have hb10 := hb10.alloc (.cells #[.int .i64 r] 3)
          have hA := hA.up ((Up.refl v44).alloc (.cells #[.int .i64 r] 3))
          have hW := hW.alloc (.cells #[.int .i64 r] 3)
          have hC := hC.alloc (.cells #[.int .i64 r] 3)
          have hU := hU.alloc (.cells #[.int .i64 r] 3)
          rw [hg13]
          refine hK.out _ _ (.inr hA) ?_
          clear hK
          try simp only [Act.put, List.setIfInBounds_toArray, List.set_cons_zero, List.set_cons_succ]
          generalize (v44.alloc (.cells #[.int .i64 r] 3)) = v54 at *
          refine anyE_one (i := 8) rfl (by kernel_rfl) rfl (fun K hK => ?_)
          go_simp
          refine (N1.out _ _ hU (ints_three (hb7.val (i := 0) rfl) (hb7.val (i := 1) rfl) (hb7.val (i := 2) rfl)) hW).mono ?_
          rintro e v55 ⟨rfl, hWv55, hgv55⟩
          dsimp only
          have hb10 := Blk.grownOut hb10 hgv55 hn10
          have hb13 := Blk.grownOut hb13 hgv55 hn13
          have hA := grp_grown hA hgv55 hne1
          have hC := Blk.grownOut hC hgv55 hne2
          have hU := Up.grownNew hU hgv55 lbw
          have hW : Blk v55 b 129 (wriA T1 1 0) := hWv55
          refine hK.out _ _ (.inr hA) ?_
          clear hK
          try simp only [Act.put, List.setIfInBounds_toArray, List.set_cons_zero, List.set_cons_succ]
          refine anyE_one (i := 11) rfl (by kernel_rfl) rfl (fun K hK => ?_)
          go_simp
          refine (N2.out _ _ hU (ints_one (hb10.val (i := 0) rfl)) hW).mono ?_
          rintro e v56 ⟨rfl, hWv56, hgv56⟩
          dsimp only
          have hb13 := Blk.grownOut hb13 hgv56 hn13
          have hA := grp_grown hA hgv56 hne1
          have hC := Blk.grownOut hC hgv56 hne2
          have hU := Up.grownNew hU hgv56 lbw
          have hW : Blk v56 b 129 (wriA T2 2 0) := hWv56
          refine hK.out _ _ (.inr hA) ?_
          clear hK
          try simp only [Act.put, List.setIfInBounds_toArray, List.set_cons_zero, List.set_cons_succ]
          refine anyE_one (i := 14) rfl (by kernel_rfl) rfl (fun K hK => ?_)
          go_simp
          refine (N3.out _ _ hU (ints_one (hb13.val (i := 0) rfl)) hW).mono ?_
          rintro e v57 ⟨rfl, hWv57, hgv57⟩
          dsimp only
          have hA := grp_grown hA hgv57 hne1
          have hC := Blk.grownOut hC hgv57 hne2
          have hU := Up.grownNew hU hgv57 lbw
          have hW : Blk v57 b 129 (wriA T3 3 0) := hWv57
          refine hK.out _ _ (.inr hA) ?_
          clear hK
          try simp only [Act.put, List.setIfInBounds_toArray, List.set_cons_zero, List.set_cons_succ]
          refine anyE_one (i := 16) rfl (by kernel_rfl) rfl (fun K hK => ?_)
          go_simp
          refine (N4.out _ _ hU (HSq.out _ hC) hW).mono ?_
          rintro e v58 ⟨rfl, hWv58, hgv58⟩
          dsimp only
          have hA := grp_grown hA hgv58 hne1
          have hC := Blk.grownOut hC hgv58 hne2
          have hU := Up.grownNew hU hgv58 lbw
          have hW : Blk v58 b 129 (wriA T4 4 0) := hWv58
          refine hK.out _ _ (.inr hA) (anyE_done (by kernel_rfl) ?_ _)
          try simp only [Act.put, List.setIfInBounds_toArray, List.set_cons_zero, List.set_cons_succ]
          clear hK
          go_wp2_with fail
          go_meet
          exact ⟨rfl, hid hU, hid hA, hid hW⟩
      · go_simp
        obtain ⟨g13, hg13⟩ : ∃ g13, v43.heap.size = g13 := ⟨_, rfl⟩
        have hb13 : Blk (v43.alloc (.cells #[.int .i64 r] 3)) g13 3 #[.int .i64 r] := Blk.new hg13 rfl
        have hn13 : g13 ≠ b := by have := hW.lt; omega
        have hb10 := hb10.alloc (.cells #[.int .i64 r] 3)
        have hA := hA.up ((Up.refl v43).alloc (.cells #[.int .i64 r] 3))
        have hW := hW.alloc (.cells #[.int .i64 r] 3)
        have hC := hC.alloc (.cells #[.int .i64 r] 3)
        have hU := hU.alloc (.cells #[.int .i64 r] 3)
        rw [hg13]
        refine hK.out _ _ (.inr hA) ?_
        clear hK
        try simp only [Act.put, List.setIfInBounds_toArray, List.set_cons_zero, List.set_cons_succ]
        generalize (v43.alloc (.cells #[.int .i64 r] 3)) = v59 at *
        refine anyE_one (i := 7) rfl (by kernel_rfl) rfl (fun K hK => ?_)
        go_simp
        obtain ⟨g7, hg7⟩ : ∃ g7, v59.heap.size = g7 := ⟨_, rfl⟩
        have hb7 : Blk (v59.alloc (.cells #[.int .i64 P, .int .i64 Q, .int .i64 G] 3)) g7 3 #[.int .i64 P, .int .i64 Q, .int .i64 G] := Blk.new hg7 rfl
        have hn7 : g7 ≠ b := by have := hW.lt; omega
        have hb10 := hb10.alloc (.cells #[.int .i64 P, .int .i64 Q, .int .i64 G] 3)
        have hb13 := hb13.alloc (.cells #[.int .i64 P, .int .i64 Q, .int .i64 G] 3)
        have hA := hA.up ((Up.refl v59).alloc (.cells #[.int .i64 P, .int .i64 Q, .int .i64 G] 3))
        have hW := hW.alloc (.cells #[.int .i64 P, .int .i64 Q, .int .i64 G] 3)
        have hC := hC.alloc (.cells #[.int .i64 P, .int .i64 Q, .int .i64 G] 3)
        have hU := hU.alloc (.cells #[.int .i64 P, .int .i64 Q, .int .i64 G] 3)
        rw [hg7]
        refine hK.out _ _ (.inr hA) ?_
        clear hK
        try simp only [Act.put, List.setIfInBounds_toArray, List.set_cons_zero, List.set_cons_succ]
        generalize (v59.alloc (.cells #[.int .i64 P, .int .i64 Q, .int .i64 G] 3)) = v60 at *
        refine anyE_one (i := 8) rfl (by kernel_rfl) rfl (fun K hK => ?_)
        go_simp
        refine (N1.out _ _ hU (ints_three (hb7.val (i := 0) rfl) (hb7.val (i := 1) rfl) (hb7.val (i := 2) rfl)) hW).mono ?_
        rintro e v61 ⟨rfl, hWv61, hgv61⟩
        dsimp only
        have hb10 := Blk.grownOut hb10 hgv61 hn10
        have hb13 := Blk.grownOut hb13 hgv61 hn13
        have hA := grp_grown hA hgv61 hne1
        have hC := Blk.grownOut hC hgv61 hne2
        have hU := Up.grownNew hU hgv61 lbw
        have hW : Blk v61 b 129 (wriA T1 1 0) := hWv61
        refine hK.out _ _ (.inr hA) ?_
        clear hK
        try simp only [Act.put, List.setIfInBounds_toArray, List.set_cons_zero, List.set_cons_succ]
        refine anyE_one (i := 11) rfl (by kernel_rfl) rfl (fun K hK => ?_)
        go_simp
        refine (N2.out _ _ hU (ints_one (hb10.val (i := 0) rfl)) hW).mono ?_
        rintro e v62 ⟨rfl, hWv62, hgv62⟩
        dsimp only
        have hb13 := Blk.grownOut hb13 hgv62 hn13
        have hA := grp_grown hA hgv62 hne1
        have hC := Blk.grownOut hC hgv62 hne2
        have hU := Up.grownNew hU hgv62 lbw
        have hW : Blk v62 b 129 (wriA T2 2 0) := hWv62
        refine hK.out _ _ (.inr hA) ?_
        clear hK
        try simp only [Act.put, List.setIfInBounds_toArray, List.set_cons_zero, List.set_cons_succ]
        refine anyE_one (i := 14) rfl (by kernel_rfl) rfl (fun K hK => ?_)
        go_simp
        refine (N3.out _ _ hU (ints_one (hb13.val (i := 0) rfl)) hW).mono ?_
        rintro e v63 ⟨rfl, hWv63, hgv63⟩
        dsimp only
        have hA := grp_grown hA hgv63 hne1
        have hC := Blk.grownOut hC hgv63 hne2
        have hU := Up.grownNew hU hgv63 lbw
        have hW : Blk v63 b 129 (wriA T3 3 0) := hWv63
        refine hK.out _ _ (.inr hA) ?_
        clear hK
        try simp only [Act.put, List.setIfInBounds_toArray, List.set_cons_zero, List.set_cons_succ]
        refine anyE_one (i := 16) rfl (by kernel_rfl) rfl (fun K hK => ?_)
        go_simp
        refine (N4.out _ _ hU (HSq.out _ hC) hW).mono ?_
        rintro e v64 ⟨rfl, hWv64, hgv64⟩
        dsimp only
        have hA := grp_grown hA hgv64 hne1
        have hC := Blk.grownOut hC hgv64 hne2
        have hU := Up.grownNew hU hgv64 lbw
        have hW : Blk v64 b 129 (wriA T4 4 0) := hWv64
        refine hK.out _ _ (.inr hA) (anyE_done (by kernel_rfl) ?_ _)
        try simp only [Act.put, List.setIfInBounds_toArray, List.set_cons_zero, List.set_cons_succ]
        clear hK
        go_wp2_with fail
        go_meet
        exact ⟨rfl, hid hU, hid hA, hid hW⟩
    · go_simp
      obtain ⟨g13, hg13⟩ : ∃ g13, v0.heap.size = g13 := ⟨_, rfl⟩
      have hb13 : Blk (v0.alloc (.cells #[.int .i64 r] 3)) g13 3 #[.int .i64 r] := Blk.new hg13 rfl
      have hn13 : g13 ≠ b := by have := hW.lt; omega
      have hA := hA.up ((Up.refl v0).alloc (.cells #[.int .i64 r] 3))
      have hW := hW.alloc (.cells #[.int .i64 r] 3)
      have hC := hC.alloc (.cells #[.int .i64 r] 3)
      have hU := hU.alloc (.cells #[.int .i64 r] 3)
      rw [hg13]
      refine hK.out _ _ (.inr hA) ?_
      clear hK
      try simp only [Act.put, List.setIfInBounds_toArray, List.set_cons_zero, List.set_cons_succ]
      generalize (v0.alloc (.cells #[.int .i64 r] 3)) = v65 at *
      refine anyE_two 7 10 (by kernel_rfl) ⟨_, rfl, rfl, fun K hK => ?_⟩ ⟨_, rfl, rfl, fun K hK => ?_⟩
      · go_simp
        obtain ⟨g7, hg7⟩ : ∃ g7, v65.heap.size = g7 := ⟨_, rfl⟩
        have hb7 : Blk (v65.alloc (.cells #[.int .i64 P, .int .i64 Q, .int .i64 G] 3)) g7 3 #[.int .i64 P, .int .i64 Q, .int .i64 G] := Blk.new hg7 rfl
        have hn7 : g7 ≠ b := by have := hW.lt; omega
        have hb13 := hb13.alloc (.cells #[.int .i64 P, .int .i64 Q, .int .i64 G] 3)
        have hA := hA.up ((Up.refl v65).alloc (.cells #[.int .i64 P, .int .i64 Q, .int .i64 G] 3))
        have hW := hW.alloc (.cells #[.int .i64 P, .int .i64 Q, .int .i64 G] 3)
        have hC := hC.alloc (.cells #[.int .i64 P, .int .i64 Q, .int .i64 G] 3)
        have hU := hU.alloc (.cells #[.int .i64 P, .int .i64 Q, .int .i64 G] 3)
        rw [hg7]
        refine hK.out _ _ (.inr hA) ?_
        clear hK
        try simp only [Act.put, List.setIfInBounds_toArray, List.set_cons_zero, List.set_cons_succ]
        generalize (v65.alloc (.cells #[.int .i64 P, .int .i64 Q, .int .i64 G] 3)) = v66 at *
        refine anyE_two 8 10 (by kernel_rfl) ⟨_, rfl, rfl, fun K hK => ?_⟩ ⟨_, rfl, rfl, fun K hK => ?_⟩
        · go_simp
          refine (N1.out _ _ hU (ints_three (hb7.val (i := 0) rfl) (hb7.val (i := 1) rfl) (hb7.val (i := 2) rfl)) hW).mono ?_
          rintro e v67 ⟨rfl, hWv67, hgv67⟩
          dsimp only
          have hb13 := Blk.grownOut hb13 hgv67 hn13
          have hA := grp_grown hA hgv67 hne1
          have hC := Blk.grownOut hC hgv67 hne2
          have hU := Up.grownNew hU hgv67 lbw
          have hW : Blk v67 b 129 (wriA T1 1 0) := hWv67
          refine hK.out _ _ (.inr hA) ?_
          clear hK
          try simp only [Act.put, List.setIfInBounds_toArray, List.set_cons_zero, List.set_cons_succ]
          refine anyE_one (i := 10) rfl (by kernel_rfl) rfl (fun K hK => ?_)
          go_simp
          obtain ⟨g10, hg10⟩ : ∃ g10, v67.heap.size = g10 := ⟨_, rfl⟩
          have hb10 : Blk (v67.alloc (.cells #[.int .i64 y] 3)) g10 3 #[.int .i64 y] := Blk.new hg10 rfl
          have hn10 : g10 ≠ b := by have := hW.lt; omega
          have hb13 := hb13.alloc (.cells #[.int .i64 y] 3)
          have hA := hA.up ((Up.refl v67).alloc (.cells #[.int .i64 y] 3))
          have hW := hW.alloc (.cells #[.int .i64 y] 3)
          have hC := hC.alloc (.cells #[.int .i64 y] 3)
          have hU := hU.alloc (.cells #[.int .i64 y] 3)
          rw [hg10]
          refine hK.out _ _ (.inr hA) ?_
          clear hK
          try simp only [Act.put, List.setIfInBounds_toArray, List.set_cons_zero, List.set_cons_succ]
          generalize (v67.alloc (.cells #[.int .i64 y] 3)) = v68 at *
          refine anyE_one (i := 11) rfl (by kernel_rfl) rfl (fun K hK => ?_)
          go_simp
          refine (N2.out _ _ hU (ints_one (hb10.val (i := 0) rfl)) hW).mono ?_
          rintro e v69 ⟨rfl, hWv69, hgv69⟩
          dsimp only
          have hb13 := Blk.grownOut hb13 hgv69 hn13
          have hA := grp_grown hA hgv69 hne1
          have hC := Blk.grownOut hC hgv69 hne2
          have hU := Up.grownNew hU hgv69 lbw
          have hW : Blk v69 b 129 (wriA T2 2 0) := hWv69
          refine hK.out _ _ (.inr hA) ?_
          clear hK
          try simp only [Act.put, List.setIfInBounds_toArray, List.set_cons_zero, List.set_cons_succ]
          refine anyE_one (i := 14) rfl (by kernel_rfl) rfl (fun K hK => ?_)
          go_simp
          refine (N3.out _ _ hU (ints_one (hb13.val (i := 0) rfl)) hW).mono ?_
          rintro e v70 ⟨rfl, hWv70, hgv70⟩
          dsimp only
          have hA := grp_grown hA hgv70 hne1
          have hC := Blk.grownOut hC hgv70 hne2
          have hU := Up.grownNew hU hgv70 lbw
          have hW : Blk v70 b 129 (wriA T3 3 0) := hWv70
          refine hK.out _ _ (.inr hA) ?_
          clear hK
          try simp only [Act.put, List.setIfInBounds_toArray, List.set_cons_zero, List.set_cons_succ]
          refine anyE_one (i := 16) rfl (by kernel_rfl) rfl (fun K hK => ?_)
          go_simp
          refine (N4.out _ _ hU (HSq.out _ hC) hW).mono ?_
          rintro e v71 ⟨rfl, hWv71, hgv71⟩
          dsimp only
          have hA := grp_grown hA hgv71 hne1
          have hC := Blk.grownOut hC hgv71 hne2
          have hU := Up.grownNew hU hgv71 lbw
          have hW : Blk v71 b 129 (wriA T4 4 0) := hWv71
          refine hK.out _ _ (.inr hA) (anyE_done (by kernel_rfl) ?_ _)
          try simp only [Act.put, List.setIfInBounds_toArray, List.set_cons_zero, List.set_cons_succ]
          clear hK
          go_wp2_with fail
          go_meet
          exact ⟨rfl, hid hU, hid hA, hid hW⟩
        · go_simp
          obtain ⟨g10, hg10⟩ : ∃ g10, v66.heap.size = g10 := ⟨_, rfl⟩
          have hb10 : Blk (v66.alloc (.cells #[.int .i64 y] 3)) g10 3 #[.int .i64 y] := Blk.new hg10 rfl
          have hn10 : g10 ≠ b := by have := hW.lt; omega
          have hb7 := hb7.alloc (.cells #[.int .i64 y] 3)
          have hb13 := hb13.alloc (.cells #[.int .i64 y] 3)
          have hA := hA.up ((Up.refl v66).alloc (.cells #[.int .i64 y] 3))
          have hW := hW.alloc (.cells #[.int .i64 y] 3)
          have hC := hC.alloc (.cells #[.int .i64 y] 3)
          have hU := hU.alloc (.cells #[.int .i64 y] 3)
          rw [hg10]
          refine hK.out _ _ (.inr hA) ?_
          clear hK
          try simp only [Act.put, List.setIfInBounds_toArray, List.set_cons_zero, List.set_cons_succ]
          generalize (v66.alloc (.cells #[.int .i64 y] 3)) = v72 at *
          refine anyE_one (i := 8) rfl (by kernel_rfl) rfl (fun K hK => ?_)
          go_simp
          refine (N1.out _ _ hU (ints_three (hb7.val (i := 0) rfl) (hb7.val (i := 1) rfl) (hb7.val (i := 2) rfl)) hW).mono ?_
          rintro e v73 ⟨rfl, hWv73, hgv73⟩
          dsimp only
          have hb10 := Blk.grownOut hb10 hgv73 hn10
          have hb13 := Blk.grownOut hb13 hgv73 hn13
          have hA := grp_grown hA hgv73 hne1
          have hC := Blk.grownOut hC hgv73 hne2
          have hU := Up.grownNew hU hgv73 lbw
          have hW : Blk v73 b 129 (wriA T1 1 0) := hWv73
          refine hK.out _ _ (.inr hA) ?_
          clear hK
          try simp only [Act.put, List.setIfInBounds_toArray, List.set_cons_zero, List.set_cons_succ]
          refine anyE_one (i := 11) rfl (by kernel_rfl) rfl (fun K hK => ?_)
          go_simp
          refine (N2.out _ _ hU (ints_one (hb10.val (i := 0) rfl)) hW).mono ?_
          rintro e v74 ⟨rfl, hWv74, hgv74⟩
          dsimp only
          have hb13 := Blk.grownOut hb13 hgv74 hn13
          have hA := grp_grown hA hgv74 hne1
          have hC := Blk.grownOut hC hgv74 hne2
          have hU := Up.grownNew hU hgv74 lbw
          have hW : Blk v74 b 129 (wriA T2 2 0) := hWv74
          refine hK.out _ _ (.inr hA) ?_
          clear hK
          try simp only [Act.put, List.setIfInBounds_toArray, List.set_cons_zero, List.set_cons_succ]
          refine anyE_one (i := 14) rfl (by kernel_rfl) rfl (fun K hK => ?_)
          go_simp
          refine (N3.out _ _ hU (ints_one (hb13.val (i := 0) rfl)) hW).mono ?_
          rintro e v75 ⟨rfl, hWv75, hgv75⟩
          dsimp only
          have hA := grp_grown hA hgv75 hne1
          have hC := Blk.grownOut hC hgv75 hne2
          have hU := Up.grownNew hU hgv75 lbw
          have hW : Blk v75 b 129 (wriA T3 3 0) := hWv75
          refine hK.out _ _ (.inr hA) ?_
          clear hK
          try simp only [Act.put, List.setIfInBounds_toArray, List.set_cons_zero, List.set_cons_succ]
          refine anyE_one (i := 16) rfl (by kernel_rfl) rfl (fun K hK => ?_)
          go_simp
          refine (N4.out _ _ hU (HSq.out _ hC) hW).mono ?_
          rintro e v76 ⟨rfl, hWv76, hgv76⟩
          dsimp only
          have hA := grp_grown hA hgv76 hne1
          have hC := Blk.grownOut hC hgv76 hne2
          have hU := Up.grownNew hU hgv76 lbw
          have hW : Blk v76 b 129 (wriA T4 4 0) := hWv76
          refine hK.out _ _ (.inr hA) (anyE_done (by kernel_rfl) ?_ _)
          try simp only [Act.put, List.setIfInBounds_toArray, List.set_cons_zero, List.set_cons_succ]
          clear hK
          go_wp2_with fail
          go_meet
          exact ⟨rfl, hid hU, hid hA, hid hW⟩
      · go_simp
        obtain ⟨g10, hg10⟩ : ∃ g10, v65.heap.size = g10 := ⟨_, rfl⟩
        have hb10 : Blk (v65.alloc (.cells #[.int .i64 y] 3)) g10 3 #[.int .i64 y] := Blk.new hg10 rfl
        have hn10 : g10 ≠ b := by have := hW.lt; omega
        have hb13 := hb13.alloc (.cells #[.int .i64 y] 3)
        have hA := hA.up ((Up.refl v65).alloc (.cells #[.int .i64 y] 3))
        have hW := hW.alloc (.cells #[.int .i64 y] 3)
        have hC := hC.alloc (.cells #[.int .i64 y] 3)
        have hU := hU.alloc (.cells #[.int .i64 y] 3)
        rw [hg10]
        refine hK.out _ _ (.inr hA) ?_
        clear hK
        try simp only [Act.put, List.setIfInBounds_toArray, List.set_cons_zero, List.set_cons_succ]
        generalize (v65.alloc (.cells #[.int .i64 y] 3)) = v77 at *
        refine anyE_one (i := 7) rfl (by kernel_rfl) rfl (fun K hK => ?_)
        go_simp
        obtain ⟨g7, hg7⟩ : ∃ g7, v77.heap.size = g7 := ⟨_, rfl⟩
        have hb7 : Blk (v77.alloc (.cells #[.int .i64 P, .int .i64 Q, .int .i64 G] 3)) g7 3 #[.int .i64 P, .int .i64 Q, .int .i64 G] := Blk.new hg7 rfl
        have hn7 : g7 ≠ b := by have := hW.lt; omega
        have hb10 := hb10.alloc (.cells #[.int .i64 P, .int .i64 Q, .int .i64 G] 3)
        have hb13 := hb13.alloc (.cells #[.int .i64 P, .int .i64 Q, .int .i64 G] 3)
        have hA := hA.up ((Up.refl v77).alloc (.cells #[.int .i64 P, .int .i64 Q, .int .i64 G] 3))
        have hW := hW.alloc (.cells #[.int .i64 P, .int .i64 Q, .int .i64 G] 3)
        have hC := hC.alloc (.cells #[.int .i64 P, .int .i64 Q, .int .i64 G] 3)
        have hU := hU.alloc (.cells #[.int .i64 P, .int .i64 Q, .int .i64 G] 3)
        rw [hg7]
        refine hK.out _ _ (.inr hA) ?_
        clear hK
        try simp only [Act.put, List.setIfInBounds_toArray, List.set_cons_zero, List.set_cons_succ]
        generalize (v77.alloc (.cells #[.int .i64 P, .int .i64 Q, .int .i64 G] 3)) = v78 at *
        refine anyE_one (i := 8) rfl (by kernel_rfl) rfl (fun K hK => ?_)
        go_simp
        refine (N1.out _ _ hU (ints_three (hb7.val (i := 0) rfl) (hb7.val (i := 1) rfl) (hb7.val (i := 2) rfl)) hW).mono ?_
        rintro e v79 ⟨rfl, hWv79, hgv79⟩
        dsimp only
        have hb10 := Blk.grownOut hb10 hgv79 hn10
        have hb13 := Blk.grownOut hb13 hgv79 hn13
        have hA := grp_grown hA hgv79 hne1
        have hC := Blk.grownOut hC hgv79 hne2
        have hU := Up.grownNew hU hgv79 lbw
        have hW : Blk v79 b 129 (wriA T1 1 0) := hWv79
        refine hK.out _ _ (.inr hA) ?_
        clear hK
        try simp only [Act.put, List.setIfInBounds_toArray, List.set_cons_zero, List.set_cons_succ]
        refine anyE_one (i := 11) rfl (by kernel_rfl) rfl (fun K hK => ?_)
        go_simp
        refine (N2.out _ _ hU (ints_one (hb10.val (i := 0) rfl)) hW).mono ?_
        rintro e v80 ⟨rfl, hWv80, hgv80⟩
        dsimp only
        have hb13 := Blk.grownOut hb13 hgv80 hn13
        have hA := grp_grown hA hgv80 hne1
        have hC := Blk.grownOut hC hgv80 hne2
        have hU := Up.grownNew hU hgv80 lbw
        have hW : Blk v80 b 129 (wriA T2 2 0) := hWv80
        refine hK.out _ _ (.inr hA) ?_
        clear hK
        try simp only [Act.put, List.setIfInBounds_toArray, List.set_cons_zero, List.set_cons_succ]
        refine anyE_one (i := 14) rfl (by kernel_rfl) rfl (fun K hK => ?_)
        go_simp
        refine (N3.out _ _ hU (ints_one (hb13.val (i := 0) rfl)) hW).mono ?_
        rintro e v81 ⟨rfl, hWv81, hgv81⟩
        dsimp only
        have hA := grp_grown hA hgv81 hne1
        have hC := Blk.grownOut hC hgv81 hne2
        have hU := Up.grownNew hU hgv81 lbw
        have hW : Blk v81 b 129 (wriA T3 3 0) := hWv81
        refine hK.out _ _ (.inr hA) ?_
        clear hK
        try simp only [Act.put, List.setIfInBounds_toArray, List.set_cons_zero, List.set_cons_succ]
        refine anyE_one (i := 16) rfl (by kernel_rfl) rfl (fun K hK => ?_)
        go_simp
        refine (N4.out _ _ hU (HSq.out _ hC) hW).mono ?_
        rintro e v82 ⟨rfl, hWv82, hgv82⟩
        dsimp only
        have hA := grp_grown hA hgv82 hne1
        have hC := Blk.grownOut hC hgv82 hne2
        have hU := Up.grownNew hU hgv82 lbw
        have hW : Blk v82 b 129 (wriA T4 4 0) := hWv82
        refine hK.out _ _ (.inr hA) (anyE_done (by kernel_rfl) ?_ _)
        try simp only [Act.put, List.setIfInBounds_toArray, List.set_cons_zero, List.set_cons_succ]
        clear hK
        go_wp2_with fail
        go_meet
        exact ⟨rfl, hid hU, hid hA, hid hW⟩
  case rest =>
    obtain ⟨rfl, HU5, HA5, HW6⟩ := hcut
    have q33 := HW6.out.val (wriA_err T4 4 0)
    have hsd : (Tryz.prog.info? 127).map (·.size) = some (drwA T4 4).toList.length := by rw [Array.length_toList, drwA_size]; kernel_rfl
    clear HW5 HA4 HC4 HU4 N1 N2 N3 N4
    go_wp2_with fail
    refine region_E (fun w' => GrpAt w' o P Q G ∧ Blk w' b 129 (wriA T4 4 0)) 15 (by kernel_rfl) ⟨HA5.out.up (Up.refl _).drew, Blk.up HW6.out (Up.refl _).drew⟩ fun hS => ?_
    have hU := HU5.out.drew
    generalize World.drew _ = v0 at *
    refine anyE_takeA (i := 0) (v := ?_) 68 rfl rfl (by kernel_rfl) (by decide) (fun _ _ _ h => h) (by kernel_rfl) (by kernel_rfl) (.inl ⟨by rfl, fun u hu => ?_⟩) hS ?_
    rotate_left
    · (obtain ⟨⟨u0, u1, u2⟩, u3⟩ := hu; go_simp; first | done | with_reducible rfl)
    simp only [Act.put, List.setIfInBounds_toArray, List.set_cons_zero, List.set_cons_succ]
    refine anyE_takeA (i := 1) (v := ?_) 69 rfl rfl (by kernel_rfl) (by decide) (fun _ _ _ h => h) (by kernel_rfl) (by kernel_rfl) (.inl ⟨by rfl, fun u hu => ?_⟩) hS ?_
    rotate_left
    · (obtain ⟨⟨u0, u1, u2⟩, u3⟩ := hu; go_simp; first | done | with_reducible rfl)
    simp only [Act.put, List.setIfInBounds_toArray, List.set_cons_zero, List.set_cons_succ]
    refine anyE_takeA (i := 2) (v := ?_) 70 rfl rfl (by kernel_rfl) (by decide) (fun _ _ _ h => h) (by kernel_rfl) (by kernel_rfl) (.inl ⟨by rfl, fun u hu => ?_⟩) hS ?_
    rotate_left
    · (obtain ⟨⟨u0, u1, u2⟩, u3⟩ := hu; go_simp; first | done | with_reducible rfl)
    simp only [Act.put, List.setIfInBounds_toArray, List.set_cons_zero, List.set_cons_succ]
    refine anyE_takeA (i := 3) (v := .agg (drwA T4 4).toList.toArray) 71 rfl rfl (by kernel_rfl) (by decide) (fun _ _ _ h => h) (by kernel_rfl) (by kernel_rfl) (yieldsIf_load_mid (by rfl) 127 _ rfl b 0 rfl (drwA T4 4).toList _ (fun u hu => wri_range hu.2) Tryz.underlying127 rfl hsd) hS ?_
    rw [Array.toArray_toList]
    simp only [Act.put, List.setIfInBounds_toArray, List.set_cons_zero, List.set_cons_succ]
    refine anyE_takeA (i := 4) (v := ?_) 72 rfl rfl (by kernel_rfl) (by decide) (fun _ _ _ h => h) (by kernel_rfl) (by kernel_rfl) (.inl ⟨by rfl, fun u hu => ?_⟩) hS ?_
    rotate_left
    · (obtain ⟨⟨u0, u1, u2⟩, u3⟩ := hu; go_simp; first | done | with_reducible rfl)
    simp only [Act.put, List.setIfInBounds_toArray, List.set_cons_zero, List.set_cons_succ]
    refine anyE_takeA (i := 5) (v := ?_) 73 rfl rfl (by kernel_rfl) (by decide) (fun _ _ _ h => h) (by kernel_rfl) (by kernel_rfl) (.inl ⟨by rfl, fun u hu => ?_⟩) hS ?_
    rotate_left
    · (obtain ⟨⟨u0, u1, u2⟩, u3⟩ := hu; go_simp; first | done | with_reducible rfl)
    simp only [Act.put, List.setIfInBounds_toArray, List.set_cons_zero, List.set_cons_succ]
    refine anyE_two 6 11 (by kernel_rfl) ⟨_, rfl, rfl, fun K hK => ?_⟩ ⟨_, rfl, rfl, fun K hK => ?_⟩
    · go_simp
      unfold drw at M5
      refine (M5.out _ hU).mono ?_
      rintro e v1 ⟨⟨TT, rfl, hT1, hT2⟩, hUc⟩
      dsimp only
      have hS : GrpAt v1 o P Q G ∧ Blk v1 b 129 (wriA T4 4 0) := ⟨hS.1.up hUc, hS.2.up hUc⟩
      have hU := hU.trans hUc
      refine hK.out _ _ (.inr hS) ?_
      clear hK hUc
      try simp only [Act.put, List.setIfInBounds_toArray, List.set_cons_zero, List.set_cons_succ]
      refine anyE_takeA (i := 7) (v := ?_) 67 rfl rfl (by kernel_rfl) (by decide) (fun _ _ _ h => h) (by kernel_rfl) (by kernel_rfl) (.inl ⟨by rfl, fun u hu => ?_⟩) hS ?_
      rotate_left
      · (obtain ⟨⟨u0, u1, u2⟩, u3⟩ := hu; go_simp; first | done | with_reducible rfl)
      simp only [Act.put, List.setIfInBounds_toArray, List.set_cons_zero, List.set_cons_succ]
      refine anyE_takeA (i := 8) (v := ?_) 75 rfl rfl (by kernel_rfl) (by decide) (fun _ _ _ h => h) (by kernel_rfl) (by kernel_rfl) (.inl ⟨by rfl, fun u hu => ?_⟩) hS ?_
      rotate_left
      · (obtain ⟨⟨u0, u1, u2⟩, u3⟩ := hu; go_simp; first | done | with_reducible rfl)
      simp only [Act.put, List.setIfInBounds_toArray, List.set_cons_zero, List.set_cons_succ]
      refine anyE_takeA (i := 9) (v := ?_) 76 rfl rfl (by kernel_rfl) (by decide) (fun _ _ _ h => h) (by kernel_rfl) (by kernel_rfl) (.inl ⟨by rfl, fun u hu => ?_⟩) hS ?_
      rotate_left
      · (obtain ⟨⟨u0, u1, u2⟩, u3⟩ := hu; go_simp; first | done | with_reducible rfl)
      simp only [Act.put, List.setIfInBounds_toArray, List.set_cons_zero, List.set_cons_succ]
      refine anyE_takeA (i := 10) (v := ?_) 77 rfl rfl (by kernel_rfl) (by decide) (fun _ _ _ h => h) (by kernel_rfl) (by kernel_rfl) (.inl ⟨by rfl, fun u hu => ?_⟩) hS ?_
      rotate_left
      · (obtain ⟨⟨u0, u1, u2⟩, u3⟩ := hu; go_simp; first | done | with_reducible rfl)
      simp only [Act.put, List.setIfInBounds_toArray, List.set_cons_zero, List.set_cons_succ]
      refine anyE_one (i := 11) rfl (by kernel_rfl) rfl (fun K hK => ?_)
      go_simp
      obtain ⟨gz, hgz⟩ : ∃ gz, v1.heap.size = gz := ⟨_, rfl⟩
      generalize hWz : World.alloc v1 _ = v2
      have hZ : Blk v2 gz 127 (drwA zeroH 0) := by rw [← hWz]; exact Blk.new hgz zero33
      have hUz : Up v1 v2 := by rw [← hWz]; exact (Up.refl _).alloc _
      have hgu : w.heap.size ≤ gz := by have := hU.size; omega
      have hgo : o ≠ gz := by have := cell_lt hS.1.1; omega
      have hgb : b ≠ gz := by have := hS.2.lt; omega
      try rw [hgz]
      have hS : GrpAt v2 o P Q G ∧ Blk v2 b 129 (wriA T4 4 0) := ⟨hS.1.up hUz, hS.2.up hUz⟩
      have hU := hU.trans hUz
      refine hK.out _ _ (.inr hS) ?_
      clear hK hWz hUz hgz
      try simp only [Act.put, List.setIfInBounds_toArray, List.set_cons_zero, List.set_cons_succ]
      refine anyE_one (i := 12) rfl (by kernel_rfl) rfl (fun K hK => ?_)
      refine op_store_row 127 _ _ rfl rfl gz TT rfl rfl 127 (drwA zeroH 0) hZ (by rw [hT1]; kernel_rfl) (by rw [drwA_size, hT1]) hT2 ?_
      have hS : GrpAt (v2.setRow gz TT) o P Q G ∧ Blk (v2.setRow gz TT) b 129 (wriA T4 4 0) := ⟨grp_row hS.1 hgo, Blk.rowApart hS.2 hgb _⟩
      have hU := hU.setRow hgu TT
      refine hK.out _ _ (.inr hS) ?_
      clear hK
      try simp only [Act.put, List.setIfInBounds_toArray, List.set_cons_zero, List.set_cons_succ]
      refine anyE_one (i := 13) rfl (by kernel_rfl) rfl (fun K hK => ?_)
      go_simp
      refine hK.out _ _ (.inr hS) ?_
      clear hK
      try simp only [Act.put, List.setIfInBounds_toArray, List.set_cons_zero, List.set_cons_succ]
      refine anyE_one (i := 14) rfl (by kernel_rfl) rfl (fun K hK => ?_)
      go_simp
      refine hK.out _ _ (.inr hS) (anyE_done (by kernel_rfl) ?_ _)
      clear hK
      go_wp2
      go_ret2
      exact ⟨rfl, hU⟩
    · go_simp
      obtain ⟨gz, hgz⟩ : ∃ gz, v0.heap.size = gz := ⟨_, rfl⟩
      generalize hWz : World.alloc v0 _ = v1
      have hZ : Blk v1 gz 127 (drwA zeroH 0) := by rw [← hWz]; exact Blk.new hgz zero33
      have hUz : Up v0 v1 := by rw [← hWz]; exact (Up.refl _).alloc _
      have hgu : w.heap.size ≤ gz := by have := hU.size; omega
      have hgo : o ≠ gz := by have := cell_lt hS.1.1; omega
      have hgb : b ≠ gz := by have := hS.2.lt; omega
      try rw [hgz]
      have hS : GrpAt v1 o P Q G ∧ Blk v1 b 129 (wriA T4 4 0) := ⟨hS.1.up hUz, hS.2.up hUz⟩
      have hU := hU.trans hUz
      refine hK.out _ _ (.inr hS) ?_
      clear hK hWz hUz hgz
      try simp only [Act.put, List.setIfInBounds_toArray, List.set_cons_zero, List.set_cons_succ]
      refine anyE_one (i := 6) rfl (by kernel_rfl) rfl (fun K hK => ?_)
      go_simp
      unfold drw at M5
      refine (M5.out _ hU).mono ?_
      rintro e v2 ⟨⟨TT, rfl, hT1, hT2⟩, hUc⟩
      dsimp only
      have hZ := hZ.up hUc
      have hS : GrpAt v2 o P Q G ∧ Blk v2 b 129 (wriA T4 4 0) := ⟨hS.1.up hUc, hS.2.up hUc⟩
      have hU := hU.trans hUc
      refine hK.out _ _ (.inr hS) ?_
      clear hK hUc
      try simp only [Act.put, List.setIfInBounds_toArray, List.set_cons_zero, List.set_cons_succ]
      refine anyE_takeA (i := 7) (v := ?_) 67 rfl rfl (by kernel_rfl) (by decide) (fun _ _ _ h => h) (by kernel_rfl) (by kernel_rfl) (.inl ⟨by rfl, fun u hu => ?_⟩) hS ?_
      rotate_left
      · (obtain ⟨⟨u0, u1, u2⟩, u3⟩ := hu; go_simp; first | done | with_reducible rfl)
      simp only [Act.put, List.setIfInBounds_toArray, List.set_cons_zero, List.set_cons_succ]
      refine anyE_takeA (i := 8) (v := ?_) 75 rfl rfl (by kernel_rfl) (by decide) (fun _ _ _ h => h) (by kernel_rfl) (by kernel_rfl) (.inl ⟨by rfl, fun u hu => ?_⟩) hS ?_
      rotate_left
      · (obtain ⟨⟨u0, u1, u2⟩, u3⟩ := hu; go_simp; first | done | with_reducible rfl)
      simp only [Act.put, List.setIfInBounds_toArray, List.set_cons_zero, List.set_cons_succ]
      refine anyE_takeA (i := 9) (v := ?_) 76 rfl rfl (by kernel_rfl) (by decide) (fun _ _ _ h => h) (by kernel_rfl) (by kernel_rfl) (.inl ⟨by rfl, fun u hu => ?_⟩) hS ?_
      rotate_left
      · (obtain ⟨⟨u0, u1, u2⟩, u3⟩ := hu; go_simp; first | done | with_reducible rfl)
      simp only [Act.put, List.setIfInBounds_toArray, List.set_cons_zero, List.set_cons_succ]
      refine anyE_takeA (i := 10) (v := ?_) 77 rfl rfl (by kernel_rfl) (by decide) (fun _ _ _ h => h) (by kernel_rfl) (by kernel_rfl) (.inl ⟨by rfl, fun u hu => ?_⟩) hS ?_
      rotate_left
      · (obtain ⟨⟨u0, u1, u2⟩, u3⟩ := hu; go_simp; first | done | with_reducible rfl)
      simp only [Act.put, List.setIfInBounds_toArray, List.set_cons_zero, List.set_cons_succ]
      refine anyE_one (i := 12) rfl (by kernel_rfl) rfl (fun K hK => ?_)
      refine op_store_row 127 _ _ rfl rfl gz TT rfl rfl 127 (drwA zeroH 0) hZ (by rw [hT1]; kernel_rfl) (by rw [drwA_size, hT1]) hT2 ?_
      have hS : GrpAt (v2.setRow gz TT) o P Q G ∧ Blk (v2.setRow gz TT) b 129 (wriA T4 4 0) := ⟨grp_row hS.1 hgo, Blk.rowApart hS.2 hgb _⟩
      have hU := hU.setRow hgu TT
      refine hK.out _ _ (.inr hS) ?_
      clear hK
      try simp only [Act.put, List.setIfInBounds_toArray, List.set_cons_zero, List.set_cons_succ]
      refine anyE_one (i := 13) rfl (by kernel_rfl) rfl (fun K hK => ?_)
      go_simp
      refine hK.out _ _ (.inr hS) ?_
      clear hK
      try simp only [Act.put, List.setIfInBounds_toArray, List.set_cons_zero, List.set_cons_succ]
      refine anyE_one (i := 14) rfl (by kernel_rfl) rfl (fun K hK => ?_)
      go_simp
      refine hK.out _ _ (.inr hS) (anyE_done (by kernel_rfl) ?_ _)
      clear hK
      go_wp2
      go_ret2
      exact ⟨rfl, hU⟩
end Go.Proofs.YtoaomjdpiealfaaGreatDoor
