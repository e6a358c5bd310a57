/- Verify answers as its specification does: specielaw30.EpochVerifies returns true. For every input; the tables of packages math/bits, prime and digest as the program's text lays them. The closed facts of the row of specielaw30.EpochVerifies, one by one: all at once they outgrow the memory. EpochVerifies: the walk. The reference of package epoch: Verify. The reference of package epoch: Message. -/
import Derived.Test.YtoaomjdpiealfaaGreatDoorLBEpochVerifies1
import Derived.Test.YtoaomjdpiealfaaGreatDoorMB21
import Derived.Test.YtoaomjdpiealfaaGreatDoorRows
import Derived.JoinedCond
import Derived.KernelRfl
import Derived.Lay
namespace Go.Proofs.YtoaomjdpiealfaaGreatDoor
open Go.RowKit Go.Sp
set_option maxHeartbeats 4000000
set_option maxRecDepth 20000

theorem rMessage_any (v : Value) (l : List Rec) (w : World) (hv : RecsAt w v l) (hl : l.length ≤ 1000) :
    Calls Tryz.prog 72 #[v] w fun e w' => ∃ v, e = .returned v ∧ SeqAt .u8 w' v (msgR l) ∧ Up w w' := by
  have HV := hid hv
  have HLl := hid hl
  have N1 := hid (fun (x : Rec) w' => rItem_ok x.kd x.nr x.co x.iv x.ni x.ka x.kb x.kc x.st x.un x.ac w')
  obtain ⟨_, a, cpv, rfl, _⟩ := hv
  obtain ⟨m, hm⟩ : ∃ m, l.length = m := ⟨_, rfl⟩
  have HM := hid hm
  rw [hm] at HV hl ⊢
  obtain ⟨o, ho⟩ : ∃ o, w.heap.size = o := ⟨_, rfl⟩
  have HO := hid ho
  obtain ⟨B, hB⟩ : ∃ B, o + 1 = B := ⟨_, rfl⟩
  have HBB := hid hB
  clear hm ho hB
  go_enter Tryz.func72, Tryz.ntmps72
  go_wp2_with fail
  have HL0 : Hid (Blk (w.alloc (.cells #[.int .i64 3, .int .i64 0, nilS, nilS] 142)) o 142 #[.int .i64 3, .int .i64 0, nilS, nilS]) := hid (Blk.new HO.out rfl)
  have HU0 : Hid (Up w (w.alloc (.cells #[.int .i64 3, .int .i64 0, nilS, nilS] 142))) := hid ((Up.refl w).alloc _)
  rw [HO.out]
  rw [show w.alloc (.cells #[.int .i64 3, .int .i64 0, .slice none 0 0, .slice none 0 0] 142) = w.alloc (.cells #[.int .i64 3, .int .i64 0, nilS, nilS] 142) from rfl]
  generalize w.alloc (.cells #[.int .i64 3, .int .i64 0, nilS, nilS] 142) = w0 at *
  go_loopw [4] (fun vi wr => ∃ (i : Nat) (ad : Option Addr) (cp : Nat) (qs : List Quad), i ≤ m ∧ vi = .int .i64 i ∧ Hid (Blk wr o 142 #[.int .i64 3, .int .i64 0, nilS, .slice ad i cp]) ∧ Hid (qs.length = i) ∧ Hid (OwnQ 142 wr B (.slice ad i cp) qs) ∧ Hid (LstAt wr qs (l.take i)) ∧ Hid (Up w wr)) (fun vi _ => m - (intOf vi).toNat)
  case atStart => exact ⟨0, none, 0, [], by omega, rfl, HL0, hid rfl, hid ownQ_none, hid ⟨rfl, fun j hj => by simp at hj⟩, HU0⟩
  case round =>
    clear HL0 HU0
    obtain ⟨i, ad, cp, qs, hi, rfl, HL, HLn, HQ, HLs, HU⟩ := hrel
    have lL : o < wr.heap.size := HL.out.lt
    have hlo2 : o < B := by have := HBB.out; omega
    have hoB : B ≤ o + 1 := by have := HBB.out; omega
    have hwo : w.heap.size ≤ o := by have := HO.out; omega
    by_cases hlt : i < m
    · have hlx : i < l.length := by rw [HM.out]; exact hlt
      obtain ⟨g, off, rfl, hx2⟩ := recs_cell HV.out (Up.refl w) hlx
      have M1 := hid (fun w' => N1.out (l.getD i rec0) w')
      have HAp := hid (fun (w' : World) (qs' : List Quad) (v' : Value) (h : LstAt w' qs' (l.take i)) (hv : IntItems w' v' (l.getD i rec0).nums) (hc : CapOk v' 11) => h.app hlx hv hc)
      clear hlx
      generalize l.getD i rec0 = x at *
      obtain ⟨kd, nr, co, iv, ni, ka, kb, kc, st, un, ac⟩ := x
      have HX := hid (fun u (hU : Up w u) => hx2.up hU)
      clear hx2
      dsimp only at M1
      unfold RecAt at HX
      dsimp only at HX
      have hnums : (⟨kd, nr, co, iv, ni, ka, kb, kc, st, un, ac⟩ : Rec).nums = [kd, nr, co, iv, ni, ka, kb, kc, st, un, ac] := rfl
      rw [hnums] at HAp
      have hx11 : [kd, nr, co, iv, ni, ka, kb, kc, st, un, ac].length = 11 := rfl
      generalize [kd, nr, co, iv, ni, ka, kb, kc, st, un, ac] = xs at *
      unfold epo epoA at M1
      have HB : Hid (R30S o i ad cp w wr) := hid ⟨HL.out, HU.out⟩
      go_wp2_with fail
      clear HL HU
      refine region_E (R30S o i ad cp w) 10 (by kernel_rfl) (HB.out.up (Up.refl _).drew) fun hS => ?_
      have hQ0 := HQ.out.up (Up.refl wr).drew
      have hL0 := HLs.out.up (Up.refl wr).drew
      generalize wr.drew = u0 at *
      refine anyE_take (i := 0) (v := ?_) 12 rfl rfl (by kernel_rfl) (by kernel_rfl) (by decide) (fun _ _ _ h => h) (by kernel_rfl) (by kernel_rfl) (.inl ⟨by rfl, fun u hu => ?_⟩) hS ?_
      rotate_left
      · (go_simp; first | done | with_reducible rfl)
      simp only [Act.put, List.setIfInBounds_toArray, List.set_cons_zero, List.set_cons_succ]
      refine anyE_take (i := 1) (v := ?_) 13 rfl rfl (by kernel_rfl) (by kernel_rfl) (by decide) (fun _ _ _ h => h) (by kernel_rfl) (by kernel_rfl) (.inl ⟨by rfl, fun u hu => ?_⟩) hS ?_
      rotate_left
      · (obtain ⟨u1, u2⟩ := R30S.cells hu; go_simp; first | done | with_reducible rfl)
      simp only [Act.put, List.setIfInBounds_toArray, List.set_cons_zero, List.set_cons_succ]
      refine anyE_take (i := 2) (v := ?_) 14 rfl rfl (by kernel_rfl) (by kernel_rfl) (by decide) (fun _ _ _ h => h) (by kernel_rfl) (by kernel_rfl) (.inl ⟨by rfl, fun u hu => ?_⟩) hS ?_
      rotate_left
      · (go_simp; first | done | with_reducible rfl)
      simp only [Act.put, List.setIfInBounds_toArray, List.set_cons_zero, List.set_cons_succ]
      refine anyE_take (i := 3) (v := ?_) 15 rfl rfl (by kernel_rfl) (by kernel_rfl) (by decide) (fun _ _ _ h => h) (by kernel_rfl) (by kernel_rfl) (.inl ⟨by rfl, fun u hu => ?_⟩) hS ?_
      rotate_left
      · (go_simp; first | done | with_reducible rfl)
      simp only [Act.put, List.setIfInBounds_toArray, List.set_cons_zero, List.set_cons_succ]
      refine anyE_take (i := 4) (v := ?_) 16 rfl rfl (by kernel_rfl) (by kernel_rfl) (by decide) (fun _ _ _ h => h) (by kernel_rfl) (by kernel_rfl) (.inl ⟨by rfl, fun u hu => ?_⟩) hS ?_
      rotate_left
      · (go_simp; first | done | with_reducible rfl)
      simp only [Act.put, List.setIfInBounds_toArray, List.set_cons_zero, List.set_cons_succ]
      refine anyE_take (i := 5) (v := ?_) 17 rfl rfl (by kernel_rfl) (by kernel_rfl) (by decide) (fun _ _ _ h => h) (by kernel_rfl) (by kernel_rfl) (.inl ⟨by rfl, fun u hu => ?_⟩) hS ?_
      rotate_left
      · (obtain ⟨u1, u2⟩ := R30S.cells hu; obtain ⟨t0, t1, t2, t3, t4, t5, t6, t7, t8, t9, t10⟩ := HX.out _ u2; go_simp; first | done | with_reducible rfl)
      simp only [Act.put, List.setIfInBounds_toArray, List.set_cons_zero, List.set_cons_succ]
      refine anyE_oneG (i := 6) rfl (by kernel_rfl) (by rfl) (fun K hK => ?_)
      go_simp
      refine (M1.out u0).mono ?_
      rintro e u1 ⟨l1, rfl, ⟨base1, hq1, hb1⟩, hup⟩
      try dsimp only
      have hS1 := R30S.up hS hup
      have hQ1 := hQ0.up hup
      have hL1 := hL0.up hup
      have hnew := fun b n c hv => newer (b := b) (n := n) (c := c) hQ0 hq1 hb1 hv
      have hI1 := OwnQ.ints hq1
      have hC1 := ownQ_cap hq1
      rw [List.length_map, hx11] at hC1
      refine hK.out _ _ (.inr hS1) ?_
      clear hK hS hup hQ0 hL0
      try simp only [Act.put, List.setIfInBounds_toArray, List.set_cons_zero, List.set_cons_succ]
      refine anyE_oneG (i := 7) rfl (by kernel_rfl) (by rfl) (fun K hK => ?_)
      obtain ⟨la, lc, hle⟩ := hq1.shape
      rw [List.length_map, hx11] at hle
      subst hle
      go_simp
      have hup2 := (Up.refl u1).alloc (.cells #[.int .i64 3, .int .i64 0, nilS, .slice la 11 lc] 142)
      have hS2 := R30S.up hS1 hup2
      refine hK.out _ _ (.inr hS2) ?_
      clear hK
      try simp only [Act.put, List.setIfInBounds_toArray, List.set_cons_zero, List.set_cons_succ]
      have hQ2 := hQ1.up hup2
      have hL2 := hL1.up hup2
      have hI2 := hI1.up hup2
      have hs2 : u1.heap.size ≤ (u1.alloc (.cells #[.int .i64 3, .int .i64 0, nilS, .slice la 11 lc] 142)).heap.size := hup2.size
      have hBu : B ≤ (u1.alloc (.cells #[.int .i64 3, .int .i64 0, nilS, .slice la 11 lc] 142)).heap.size := by have := hS1.1.lt; omega
      refine anyE_oneG (i := 8) rfl (by kernel_rfl) (by rfl) (fun K hK => ?_)
      refine op_appQ infoItm rfl Tryz.underlying140 (by omega) _ _ rfl B rfl hQ2 u1.heap.size 1 (news := [⟨3, 0, nilS, .slice la 11 lc⟩]) rfl (fun j hj => by (obtain rfl : j = 0 := (by simp at hj; omega)); exact itm_new rfl) (fun j hj => by (obtain rfl : j = 0 := (by simp at hj; omega)); exact ⟨rfl, rfl⟩) (by have := HLn.out; simp only [List.length_singleton]; omega) hBu ?_
      intro v5 w5 hO5 hg5
      have hB5 := hQ2.below hg5 hBu
      have hS5 : R30S o i ad cp w w5 := ⟨hS2.1.below hB5 (by omega), up_below hS2.2 hB5 (by omega)⟩
      have hL5 := hL2.grown hQ2 hg5
      have hI5 := hI2.grown hg5 (fun _ b n c hv => hnew b n c hv)
      have hA5 := HAp.out w5 _ _ hL5 hI5 hC1
      obtain ⟨a5, c5, rfl⟩ := hO5.shape
      rw [List.length_append, HLn.out, List.length_singleton] at hO5 ⊢
      change K (Act.put _ (some 20) _) _
      refine hK.out _ _ (.inr hS5) ?_
      clear hK
      try simp only [Act.put, List.setIfInBounds_toArray, List.set_cons_zero, List.set_cons_succ]
      refine anyE_take (i := 9) (v := ?_) 21 rfl rfl (by kernel_rfl) (by kernel_rfl) (by decide) (fun _ _ _ h => h) (by kernel_rfl) (by kernel_rfl) (.inl ⟨by rfl, fun u hu => ?_⟩) hS5 ?_
      rotate_left
      · (go_simp; first | done | with_reducible rfl)
      try simp only [Act.put, List.setIfInBounds_toArray, List.set_cons_zero, List.set_cons_succ]
      have k3 := hS5.1.val (i := 3) rfl
      have y3 := hS5.1.thawed 3
      refine anyE_oneG (i := 10) rfl (by kernel_rfl) (by rfl) (fun K hK => ?_)
      go_simp
      refine hK.out _ _ (.inl rfl) (anyE_done (by kernel_rfl) ?_ _)
      clear hK
      have HL6 : Hid (Blk (w5.setCell ⟨o, 3, none⟩ (.slice a5 (i + 1) c5)) o 142 #[.int .i64 3, .int .i64 0, nilS, .slice a5 (i + 1) c5]) := hid (hS5.1.wrote 3 _)
      have HQ6 := hid (hO5.set (a := ⟨o, 3, none⟩) (show o < B by omega) (.slice a5 (i + 1) c5))
      have HLs6 := hid (LstAt.set hA5 hS5.1 rfl (.slice a5 (i + 1) c5))
      have HU6 := hid (hS5.2.setCell (a := ⟨o, 3, none⟩) (show w.heap.size ≤ o by omega) (.slice a5 (i + 1) c5))
      have HLn6 : Hid ((qs ++ [(⟨3, 0, nilS, .slice la 11 lc⟩ : Quad)]).length = i + 1) := hid (by rw [List.length_append, HLn.out]; rfl)
      clear hS1 hS2 hS5 k3 y3 hQ1 hQ2 hL1 hL2 hL5 hI1 hI2 hI5 hA5 hO5 hg5 hB5 hnew hC1 hq1 hs2 hBu HB HQ HLs M1 HAp
      generalize w5.setCell ⟨o, 3, none⟩ (.slice a5 (i + 1) c5) = w6 at *
      go_wp2_with fail
      go_roundw
      case rel => exact ⟨i + 1, a5, c5, _, by omega, by go_num, HL6, HLn6, HQ6, HLs6, HU6⟩
      case measure => simp [intOf]; omega
    · obtain rfl : i = m := by omega
      have HE := hid (fun (w' : World) (hU : Up wr w') => renc_ok 2 3 0 nilS _ (msgR l) w' (lst_itm (HQ.out.up hU) (by have := HLs.out.up hU; rw [List.take_of_length_le (by rw [HM.out]; omega)] at this; exact this) (by rw [HM.out]; exact hl)) (by rw [msgR_length, HM.out]; omega))
      have k0 := HL.out.val (i := 0) rfl
      have k1 := HL.out.val (i := 1) rfl
      have k2 := HL.out.val (i := 2) rfl
      have k3 := HL.out.val (i := 3) rfl
      clear HQ HLs HLn N1
      go_wp2_with fail
      refine (HE.out _ (Up.refl _)).mono ?_
      rintro e w2 ⟨v2, rfl, hO2, hU2⟩
      have HU2 := hid (HU.out.trans hU2)
      have HO2 := hid hO2
      clear hU2 hO2 k0 k1 k2 k3 HE HL HU
      go_wp2
      go_ret
      exact ⟨v2, rfl, HO2.out.seq, HU2.out⟩
end Go.Proofs.YtoaomjdpiealfaaGreatDoor
namespace Go.Proofs.YtoaomjdpiealfaaGreatDoor
open Go.RowKit Go.Sp
set_option maxHeartbeats 4000000
set_option maxRecDepth 20000

theorem rEVerify_any (P Q G A B C y c s : Int) (v : Value) (l : List Rec) (w : World) (hP : -9223372036854775808 ≤ P) (hQ : Q ≤ 9223372036854775807) (hv : RecsAt w v l) (hl : l.length ≤ 1000) :
    Calls Tryz.prog 24 #[bas P Q G A B C, .int .i64 y, .agg #[v, .int .i64 c, .int .i64 s]] w fun e w' => e = .returned (.bool (vfyB P Q G A B C y l c s)) ∧ Up w w' := by
  have M1 := hid (fun w' => rbValid_any P Q G A B C w' hP hQ)
  have M2 := hid (fun w' (hU : Up w w') => rAll_any P Q G A B C v l w' hP hQ (hv.up hU))
  have M3 := hid (fun w' (hU : Up w w') => rTwice_any v l w' (hv.up hU))
  have M4 := hid (fun w' (hU : Up w w') => rMessage_any v l w' (hv.up hU) hl)
  have M5 := hid (fun u w' (hu : SeqAt .u8 w' u (msgR l)) => r22Verify_any P Q G y c s u (msgR l) w' hP hQ hu (msgR_byt l))
  have HL := hid (fun h => verS_long (P := P) (Q := Q) (G := G) (y := y) (c := c) (s := s) (m := msgR l) h)
  obtain ⟨T, hT0⟩ : ∃ T, vfyB P Q G A B C y l c s = T := ⟨_, rfl⟩
  have HB0 := hid hT0.symm
  rw [hT0]
  unfold vfyB at HB0
  generalize bvB P Q G A B C = b1 at *
  generalize allR P Q G A B C l = b2 at *
  generalize twB l = b3 at *
  generalize verS P Q G y (msgR l) c s = b4 at *
  generalize msgR l = ms at *
  obtain ⟨_, a, cp, rfl, _⟩ := hv
  obtain ⟨m, hm⟩ : ∃ m, l.length = m := ⟨_, rfl⟩
  rw [hm] at M2 M3 M4 ⊢
  obtain ⟨o, ho⟩ : ∃ o, w.heap.size = o := ⟨_, rfl⟩
  have HO := hid ho
  obtain ⟨o1, ho1⟩ : ∃ o1, o + 1 = o1 := ⟨_, rfl⟩
  have HO1 := hid ho1
  clear hm ho ho1 hT0
  go_enter Tryz.func24, Tryz.ntmps24
  go_wp2_with fail
  refine (M1.out _).mono ?_
  rintro e w1 ⟨rfl, hU1⟩
  have HA1 := hid (((nums_six (w := w) (t := 49) HO.out).up ((Up.refl _).alloc _)).up hU1)
  have HK1 := hid (((Blk.new (g := o1) (t := 71) (cs := #[.slice a m cp, .int .i64 c, .int .i64 s]) (by have := HO.out; have := HO1.out; simp; omega) rfl)).up hU1)
  have HU1 := hid ((((Up.refl w).alloc _).alloc _).trans hU1)
  clear hU1
  rw [HO.out, HO1.out]
  obtain ⟨⟨c0, c1, c2⟩, c3, c4, c5⟩ := HA1.out
  have k0 := HK1.out.val (i := 0) rfl
  have k1 := HK1.out.val (i := 1) rfl
  have k2 := HK1.out.val (i := 2) rfl
  by_cases h : b1 = true
  case neg =>
    have h' : b1 = false := by simpa using h
    have hX : T = false := by rw [HB0.out, h']; rfl
    subst hX
    rw [h']
    clear h h'
    go_wp2
    go_ret
    exact ⟨rfl, HU1.out⟩
  have HB1 : Hid (T = (b2 && (!b3 && b4))) := hid (by rw [HB0.out, h]; rfl)
  have C1 := hid h
  rw [h]
  clear h HB0
  go_wp2_with fail
  refine (M2.out _ (HU1.out)).mono ?_
  rintro e w2 ⟨rfl, hU2⟩
  have HA2 := hid (HA1.out.up hU2)
  have HK2 := hid (HK1.out.up hU2)
  have HU2 := hid (HU1.out.trans hU2)
  clear hU2 HA1 HK1 HU1 c0 c1 c2 c3 c4 c5 k0 k1 k2
  obtain ⟨⟨c0, c1, c2⟩, c3, c4, c5⟩ := HA2.out
  have k0 := HK2.out.val (i := 0) rfl
  have k1 := HK2.out.val (i := 1) rfl
  have k2 := HK2.out.val (i := 2) rfl
  by_cases h : b2 = true
  case neg =>
    have h' : b2 = false := by simpa using h
    have hX : T = false := by rw [HB1.out, h']; rfl
    subst hX
    rw [h']
    clear h h'
    go_wp2
    go_ret
    exact ⟨rfl, HU2.out⟩
  have HB2 : Hid (T = (!b3 && b4)) := hid (by rw [HB1.out, h]; rfl)
  have C2 := hid h
  rw [h]
  clear h HB1
  go_wp2_with fail
  refine (M3.out _ (HU2.out)).mono ?_
  rintro e w3 ⟨rfl, hU3⟩
  have HA3 := hid (HA2.out.up hU3)
  have HK3 := hid (HK2.out.up hU3)
  have HU3 := hid (HU2.out.trans hU3)
  clear hU3 HA2 HK2 HU2 c0 c1 c2 c3 c4 c5 k0 k1 k2
  obtain ⟨⟨c0, c1, c2⟩, c3, c4, c5⟩ := HA3.out
  have k0 := HK3.out.val (i := 0) rfl
  have k1 := HK3.out.val (i := 1) rfl
  have k2 := HK3.out.val (i := 2) rfl
  cases b3
  case true =>
    obtain rfl : T = false := HB2.out
    go_wp2
    go_ret
    exact ⟨rfl, HU3.out⟩
  have HB3 : Hid (T = b4) := hid (by rw [HB2.out]; rfl)
  clear HB2
  go_wp2_with fail
  refine (M4.out _ HU3.out).mono ?_
  rintro e w4 ⟨u, rfl, hu, hU4⟩
  have HA4 := hid (HA3.out.up hU4)
  have HK4 := hid (HK3.out.up hU4)
  have HU4 := hid (HU3.out.trans hU4)
  obtain ⟨ua, uc, rfl, _, _⟩ := hu.shape
  have HUq := hid hu
  clear hU4 hu HA3 HK3 HU3 c0 c1 c2 c3 c4 c5 k0 k1 k2
  by_cases hm : ms.length ≤ 16384
  case neg =>
    obtain rfl : T = false := by rw [HB3.out]; exact HL.out hm
    obtain ⟨n, hn⟩ : ∃ n, ms.length = n := ⟨_, rfl⟩
    rw [hn] at hm ⊢
    have hd : ¬ ((n : Int) ≤ 16384) := by omega
    clear HUq hn
    go_wp2
    go_ret
    exact ⟨rfl, HU4.out⟩
  obtain ⟨n, hn⟩ : ∃ n, ms.length = n := ⟨_, rfl⟩
  rw [hn] at hm HUq ⊢
  clear hn
  have hd : (n : Int) ≤ 16384 := by omega
  obtain ⟨⟨c0, c1, c2⟩, c3, c4, c5⟩ := HA4.out
  have k0 := HK4.out.val (i := 0) rfl
  have k1 := HK4.out.val (i := 1) rfl
  have k2 := HK4.out.val (i := 2) rfl
  go_wp2_with fail
  refine (M5.out _ _ HUq.out).mono ?_
  rintro e w5 ⟨rfl, hU5⟩
  have HU5 := hid (HU4.out.trans hU5)
  clear hU5
  obtain rfl : T = b4 := HB3.out
  go_wp2
  go_ret
  exact ⟨rfl, HU5.out⟩
end Go.Proofs.YtoaomjdpiealfaaGreatDoor
namespace Go.Proofs.YtoaomjdpiealfaaGreatDoor
open Go.RowKit Go.Sp
set_option maxHeartbeats 4000000
set_option maxRecDepth 20000

theorem EpochVerifies_walk (P Q G A B C y c s : Int) (v : Value) (l : List Rec) (w : World) (hP : -9223372036854775808 ≤ P) (hQ : Q ≤ 9223372036854775807) (hT : Tab w) (hS : TabS w) (hv : RecsAt w v l) (hI : ∀ r ∈ l, I64 r.kd ∧ I64 r.nr ∧ I64 r.co) :
    Calls Tryz.prog 5 #[bas P Q G A B C, .int .i64 y, .agg #[v, .int .i64 c, .int .i64 s]] w fun e w' => e = .returned (.bool true) ∧ Up w w' := by
  have M0 := hid (fun w' (hU : Up w w') => awake30 w' (hT.up hU) (hS.up hU))
  have V1 := hid (fun (hl : l.length ≤ 1000) w' (hU : Up w w') => eVerify_any P Q G A B C y c s v l w' hP hQ (hT.up hU) (hS.up hU) (hv.up hU) hl hI)
  have V2 := hid (fun (hl : l.length ≤ 1000) w' (hU : Up w w') => rEVerify_any P Q G A B C y c s v l w' hP hQ (hv.up hU) hl)
  generalize vfyB P Q G A B C y l c s = T at *
  have eT : (T == T) = true := by simp
  obtain ⟨_, a, cp, rfl, _⟩ := hv
  obtain ⟨m, hm⟩ : ∃ m, l.length = m := ⟨_, rfl⟩
  rw [hm] at V1 V2 ⊢
  obtain ⟨o, ho⟩ : ∃ o, w.heap.size = o := ⟨_, rfl⟩
  have HO := hid ho
  obtain ⟨o1, ho1⟩ : ∃ o1, o + 1 = o1 := ⟨_, rfl⟩
  have HO1 := hid ho1
  clear hT hS hI hm ho ho1
  go_enter Tryz.func5, Tryz.ntmps5
  go_wp2_with fail
  refine (M0.out _ (((Up.refl w).alloc _).alloc _)).mono ?_
  rintro e w1 ⟨rfl, hU1⟩
  have HA1 := hid (((nums_six (w := w) (t := 49) HO.out).up ((Up.refl _).alloc _)).up hU1)
  have HK1 := hid (((Blk.new (g := o1) (t := 71) (cs := #[.slice a m cp, .int .i64 c, .int .i64 s]) (by have := HO.out; have := HO1.out; simp; omega) rfl)).up hU1)
  have HU1 := hid ((((Up.refl w).alloc _).alloc _).trans hU1)
  clear hU1
  rw [HO.out, HO1.out]
  obtain ⟨⟨c0, c1, c2⟩, c3, c4, c5⟩ := HA1.out
  have k0 := HK1.out.val (i := 0) rfl
  have k1 := HK1.out.val (i := 1) rfl
  have k2 := HK1.out.val (i := 2) rfl
  by_cases g2 : m > 200
  case pos =>
    have d1 : decide ((m : Int) > 50) = true := by simp; omega
    have d2 : decide ((m : Int) < 130) = false := by simp; omega
    have d3 : decide ((m : Int) > 200) = true := by simp; omega
    clear g2
    go_wp2
    go_ret
    exact ⟨rfl, HU1.out⟩
  by_cases g1 : m > 50 ∧ m < 130
  case pos =>
    have d1 : decide ((m : Int) > 50) = true := by simp; omega
    have d2 : decide ((m : Int) < 130) = true := by simp; omega
    clear g1 g2
    go_wp2
    go_ret
    exact ⟨rfl, HU1.out⟩
  have V1 := hid (fun w' (hU : Up w w') => V1.out (by omega) w' hU)
  have V2 := hid (fun w' (hU : Up w w') => V2.out (by omega) w' hU)
  have d3 : decide ((m : Int) > 200) = false := by simp; omega
  have hd : (decide ((m : Int) > 50) = false) ∨ (decide ((m : Int) > 50) = true ∧ decide ((m : Int) < 130) = false) := by
    by_cases h : m > 50
    · exact .inr ⟨by simp; omega, by simp; omega⟩
    · exact .inl (by simp; omega)
  clear g1 g2
  rcases hd with d1 | ⟨d1, d2⟩
  · go_wp2_with fail
    obtain ⟨⟨c0, c1, c2⟩, c3, c4, c5⟩ := HA1.out
    have k0 := HK1.out.val (i := 0) rfl
    have k1 := HK1.out.val (i := 1) rfl
    have k2 := HK1.out.val (i := 2) rfl
    have f0 := cellF c0
    have f1 := cellF c1
    have f2 := cellF c2
    have f3 := cellF c3
    have f4 := cellF c4
    have f5 := cellF c5
    have f6 := cellF k0
    have f7 := cellF k1
    have f8 := cellF k2
    clear c0 c1 c2 c3 c4 c5 k0 k1 k2
    refine wp_region_up (by kernel_rfl) (by kernel_rfl) ?_
    repeat (go_big_quiet_step ((first
      | (go_at_call 23; exact Calls.up_of (V1.out _ (HU1.out.trans (UpFrom.up _))))
      | (go_at_call 24; exact Calls.up_of (V2.out _ (HU1.out.trans (UpFrom.up _)))))))
    refine wpQuiet_nil ?_
    rintro w5 ⟨⟨_, hU⟩, rfl⟩
    try dsimp only
    have HU5 := hid (HU1.out.trans hU)
    clear hU
    go_wp2
    go_ret
    exact ⟨rfl, HU5.out⟩
  · go_wp2_with fail
    obtain ⟨⟨c0, c1, c2⟩, c3, c4, c5⟩ := HA1.out
    have k0 := HK1.out.val (i := 0) rfl
    have k1 := HK1.out.val (i := 1) rfl
    have k2 := HK1.out.val (i := 2) rfl
    have f0 := cellF c0
    have f1 := cellF c1
    have f2 := cellF c2
    have f3 := cellF c3
    have f4 := cellF c4
    have f5 := cellF c5
    have f6 := cellF k0
    have f7 := cellF k1
    have f8 := cellF k2
    clear c0 c1 c2 c3 c4 c5 k0 k1 k2
    refine wp_region_up (by kernel_rfl) (by kernel_rfl) ?_
    repeat (go_big_quiet_step ((first
      | (go_at_call 23; exact Calls.up_of (V1.out _ (HU1.out.trans (UpFrom.up _))))
      | (go_at_call 24; exact Calls.up_of (V2.out _ (HU1.out.trans (UpFrom.up _)))))))
    refine wpQuiet_nil ?_
    rintro w5 ⟨⟨_, hU⟩, rfl⟩
    try dsimp only
    have HU5 := hid (HU1.out.trans hU)
    clear hU
    go_wp2
    go_ret
    exact ⟨rfl, HU5.out⟩
end Go.Proofs.YtoaomjdpiealfaaGreatDoor
namespace Go.Proofs.YtoaomjdpiealfaaGreatDoor.lawEpochVerifies
open Go.Proofs.YtoaomjdpiealfaaGreatDoor
theorem fact1 : (Rows.epochVerifiesRow.wf (OpenSpec.ofChange (OpenSpec.ofChange Rows.epochVerifiesSpec).bare) : Bool) = true := by kernel_rfl
theorem fact2 : (laidOutB Tryz.pinned.checked.prog : Bool) = true := by kernel_rfl
theorem fact3 : (mapsRowed Tryz.pinned.checked.prog : Bool) = true := by kernel_rfl
theorem fact4 : (Tryz.f5.params.all (Tryz.pinned.checked.prog.readableRec ·) : Bool) = true := by kernel_rfl
theorem fact5 : (namedTie Tryz.pinned.checked.prog Rows.epochVerifiesRow.named (OpenSpec.ofChange Rows.epochVerifiesSpec).bare.vars : Bool) = true := by kernel_rfl
theorem fact6 : ((Rows.epochVerifiesRow.stops == []) : Bool) = true := by kernel_rfl
theorem fact7 : ((Tryz.pinned.checked.prog.stops == []) : Bool) = true := by kernel_rfl
theorem fact8 : ((Rows.epochVerifiesRow.knobs == []) : Bool) = true := by kernel_rfl
theorem fact9 : ((Tryz.pinned.checked.prog.stopKnobs == []) : Bool) = true := by kernel_rfl
theorem fact10 : ((Rows.epochVerifiesRow.inPlace == Tryz.pinned.checked.prog.inPlace 5) : Bool) = true := by kernel_rfl
theorem fact11 : ((Rows.epochVerifiesRow.unfollowed == Tryz.pinned.checked.prog.unfollowed 5) : Bool) = true := by kernel_rfl
theorem fact12 : ((Rows.epochVerifiesRow.recurses == Tryz.pinned.checked.prog.recurses 5) : Bool) = true := by kernel_rfl
theorem fact13 : ((Rows.epochVerifiesRow.named == Tryz.pinned.checked.prog.varsNamed 5) : Bool) = true := by kernel_rfl
theorem fact14 : ((Rows.epochVerifiesRow.maps == (Tryz.f5.params.toList ++ (OpenSpec.ofChange Rows.epochVerifiesSpec).bare.plain.varTypes Tryz.pinned.checked.prog).any (Tryz.pinned.checked.prog.mapsRec ·)) : Bool) = true := by kernel_rfl
theorem fact15 : ((Rows.epochVerifiesRow.ifaces == (Tryz.f5.params.toList ++ (OpenSpec.ofChange Rows.epochVerifiesSpec).bare.plain.varTypes Tryz.pinned.checked.prog).any (Tryz.pinned.checked.prog.ifacesRec ·)) : Bool) = true := by kernel_rfl
theorem fact16 : ((Rows.epochVerifiesRow.mapsOut == Tryz.pinned.checked.prog.mapsAmong Tryz.f5.resultTypes.toList) : Bool) = true := by kernel_rfl
theorem fact17 : ((Rows.epochVerifiesRow.loops == (Tryz.f5.params.toList ++ (OpenSpec.ofChange Rows.epochVerifiesSpec).bare.plain.varTypes Tryz.pinned.checked.prog).any (Tryz.pinned.checked.prog.loopsFrom ·)) : Bool) = true := by kernel_rfl
theorem fact18 : ((Rows.epochVerifiesRow.wideKeys == (Tryz.f5.params.toList ++ (OpenSpec.ofChange Rows.epochVerifiesSpec).bare.plain.varTypes Tryz.pinned.checked.prog ++ Tryz.f5.resultTypes.toList).any (Tryz.pinned.checked.prog.wideKeysFrom ·)) : Bool) = true := by kernel_rfl
theorem fact19 : ((OpenSpec.ofChange Rows.epochVerifiesSpec).bare.vars.all (Tryz.pinned.checked.prog.varReadable ·) : Bool) = true := by kernel_rfl
theorem fact20 : (Tryz.f5.resultTypes.all (fun t => Tryz.pinned.checked.prog.readableRec t && decide (t < Tryz.pinned.checked.prog.types.size)) : Bool) = true := by kernel_rfl
theorem fact21 : ((Rows.epochVerifiesRow.ifacesOut == Tryz.f5.resultTypes.toList.any (Tryz.pinned.checked.prog.ifacesRec ·)) : Bool) = true := by kernel_rfl
theorem fact22 : ((Rows.epochVerifiesRow.loopsOut == Tryz.f5.resultTypes.toList.any (Tryz.pinned.checked.prog.loopsFrom ·)) : Bool) = true := by kernel_rfl
theorem fact23 : ((Rows.epochVerifiesRow.plainKeys == Tryz.pinned.checked.prog.plainKeys) : Bool) = true := by kernel_rfl
theorem fact24 : (Rows.epochVerifiesRow.shortTexts.isNone : Bool) = true := by kernel_rfl
theorem fact25 : (Tryz.pinned.checked.prog.stopsHeard : Bool) = true := by kernel_rfl
theorem fact26 : (Tryz.pinned.checked.prog.mayEnter : Bool) = true := by kernel_rfl
theorem fact27 : ((Rows.epochVerifiesRow.lifted == Tryz.pinned.checked.prog.liftsFinal) : Bool) = true := by kernel_rfl
theorem fact28 : ((Tryz.pinned.checked.prog.make == some Rows.epochVerifiesRow.make) : Bool) = true := by kernel_rfl
theorem fact29 : ((Rows.epochVerifiesRow.kinds == (if Rows.epochVerifiesRow.domain.isEmpty then [] else Tryz.f5.params.toList.map fun t => match Tryz.pinned.checked.prog.underlying t with | some (.int k) => some k | _ => none)) : Bool) = true := by kernel_rfl
theorem fact30 : ((Rows.epochVerifiesRow.pinned == Rows.epochVerifiesRow.pinnedBy) : Bool) = true := by kernel_rfl
theorem fact31 : ((Rows.epochVerifiesRow.veiled == (Tryz.f5.params.toList ++ (OpenSpec.ofChange Rows.epochVerifiesSpec).bare.plain.varTypes Tryz.pinned.checked.prog ++ Tryz.f5.resultTypes.toList).any (Tryz.pinned.checked.prog.veiledRec ·)) : Bool) = true := by kernel_rfl
theorem fact32 : (Rows.epochVerifiesRow.veiledFits Tryz.pinned.checked.prog Tryz.f5.params.toList (Tryz.f5.params.toList ++ (OpenSpec.ofChange Rows.epochVerifiesSpec).bare.plain.varTypes Tryz.pinned.checked.prog ++ Tryz.f5.resultTypes.toList) : Bool) = true := by kernel_rfl
theorem andB {a b : Bool} (h : a = true) (k : b = true) : (a && b) = true := by rw [h, k]; rfl
set_option maxRecDepth 100000 in
theorem closed : joinedFacts Tryz.pinned.checked.prog 5 Tryz.f5 (OpenSpec.ofChange Rows.epochVerifiesSpec).bare Rows.epochVerifiesRow = true := by
  unfold joinedFacts
  exact (andB (andB (andB (andB (andB (andB (andB (andB (andB (andB (andB (andB (andB (andB (andB (andB (andB (andB (andB (andB (andB (andB (andB (andB (andB (andB (andB (andB (andB (andB (andB fact1 fact2) fact3) fact4) fact5) fact6) fact7) fact8) fact9) fact10) fact11) fact12) fact13) fact14) fact15) fact16) fact17) fact18) fact19) fact20) fact21) fact22) fact23) fact24) fact25) fact26) fact27) fact28) fact29) fact30) fact31) fact32)
end Go.Proofs.YtoaomjdpiealfaaGreatDoor.lawEpochVerifies
namespace Go.Proofs.YtoaomjdpiealfaaGreatDoor.lawEpochVerifies
open Go.Proofs.YtoaomjdpiealfaaGreatDoor Go.ChangeShapes Go.WideShapes Go.ChangeAt Go.RowKit Go.Sp

set_option maxRecDepth 100000 in
theorem contract (H : Type) (enc : TypeId × Value → H) (W : World) (base : Nat) (args : Array Value) (ds gs : List (DataW H)) (before : List MemPlace)
    (hval : ∀ (j : Nat) t v, Tryz.f5.params[j]? = some t → args[j]? = some v → Value.okWide Tryz.prog W .any base t v)
    (hW : DataW.Whole enc Tryz.prog Tryz.f5.params.toList Rows.epochVerifiesSpec.vars false W args.toList ds gs before) (hL : laidMetH Tryz.prog Rows.epochVerifiesRow.laid W) :
    Calls Tryz.prog 5 args W fun e W' => ∃ v, e = .returned v ∧ Rows.epochVerifiesSpec.post enc Tryz.prog Tryz.f5 false true false false W args v W' := by
  have hT := tab_of_four hL
  have hS := tabS_of_four hL
  have hW' := hW
  obtain ⟨p, q, hA0, hV, rfl, hfz, hnd⟩ := hW
  have hA : DataW.TrodAll enc Tryz.prog W 0 (fun _ => true) true Tryz.f5.params.toList args.toList ds p := hA0
  rw [Tryz.params5] at hA hval
  obtain ⟨v0, vs0, d0, ds0, p0, q0, hargs, rfl, rfl, h0, r0⟩ := trodAll_cons hA
  obtain ⟨v1, vs1, d1, ds1, p1, q1, rfl, rfl, rfl, h1, r1⟩ := trodAll_cons r0
  obtain ⟨v2, vs2, d2, ds2, p2, q2, rfl, rfl, rfl, h2, r2⟩ := trodAll_cons r1
  obtain ⟨rfl, rfl, rfl⟩ := trodAll_nil r2
  obtain rfl : args = #[v0, v1, v2] := by cases args; simp_all
  obtain ⟨rfl, rfl⟩ := trodVars_none hV
  obtain ⟨P0, Q0, G0, A0, B0, C0, rfl, bP0, bQ0, bG0, bA0, bB0, bC0⟩ := open_bases (hval 0 49 v0 rfl rfl) h0
  obtain ⟨x1, rfl, bx1, by1⟩ := open_i64 (hval 1 3 v1 rfl rfl) h1
  obtain ⟨v2, x2a, x2b, xs2, rfl, hs2, hn2, bs2⟩ := open_klist (hval 2 71 v2 rfl rfl) h2
  refine (EpochVerifies_walk P0 Q0 G0 A0 B0 C0 x1 x2a x2b v2 xs2 W bP0.1 bQ0.2 hT hS hs2 bs2).mono fun e W' ⟨he, hU⟩ => ?_
  exact ⟨_, he, law_shut Tryz.underlying4 (by kernel_rfl) rfl rfl laidOut (by kernel_rfl) hW' hU⟩

theorem laid_met (os : Os) : laidMet Tryz.prog Rows.epochVerifiesRow.laid ((World.laidAll Tryz.prog os laidFour).forCall (fun _ _ => 0) ⟨#[], #[.agg #[.int .i64 0, .int .i64 0, .int .i64 0, .int .i64 0, .int .i64 0, .int .i64 0], .int .i64 0, .agg #[.slice none 0 0, .int .i64 0, .int .i64 0]], []⟩).memory :=
  laidMet_laidAll _ (by kernel_rfl) (by kernel_rfl)
theorem reads (os : Os) {H : Type} (enc : TypeId × Value → H) : ∃ places, DataW.whole enc Tryz.prog ((World.laidAll Tryz.prog os laidFour).forCall (fun _ _ => 0) ⟨#[], #[.agg #[.int .i64 0, .int .i64 0, .int .i64 0, .int .i64 0, .int .i64 0, .int .i64 0], .int .i64 0, .agg #[.slice none 0 0, .int .i64 0, .int .i64 0]], []⟩).memory Tryz.f5.params.toList Rows.epochVerifiesSpec.vars false (#[.agg #[.int .i64 0, .int .i64 0, .int .i64 0, .int .i64 0, .int .i64 0, .int .i64 0], .int .i64 0, .agg #[.slice none 0 0, .int .i64 0, .int .i64 0]] : Array Value).toList 8 = some ([.agg [.agg [.lit (.int .i64 0), .lit (.int .i64 0), .lit (.int .i64 0)], .lit (.int .i64 0), .lit (.int .i64 0), .lit (.int .i64 0)], .lit (.int .i64 0), .agg [.nil, .agg [.lit (.int .i64 0), .lit (.int .i64 0)]]], [], places) :=
  ⟨[], by kernel_rfl⟩

set_option maxRecDepth 100000 in
theorem lifted (os : Os) (started : os.Started) (H : Type) (enc : TypeId × Value → H) (F : Stop.Interp) :
    ReturnsInHanded {} Tryz.checked os 5 .any ((OpenSpec.ofChange Rows.epochVerifiesSpec).preRow enc Tryz.prog Tryz.f5 Rows.epochVerifiesRow.domain false Rows.epochVerifiesRow.laid) (((OpenSpec.ofChange Rows.epochVerifiesSpec).at F).post enc Tryz.prog Tryz.f5 false true false false) := by
  obtain ⟨places, hx⟩ := reads os enc
  refine returnsInHanded_of_row (C := Tryz.checked) (s := OpenSpec.ofChange Rows.epochVerifiesSpec) own started (by kernel_rfl) Tryz.func5
    (witness_row_at (enc := enc) (C := Tryz.checked) false (World.laidAll Tryz.prog os laidFour) #[.agg #[.int .i64 0, .int .i64 0, .int .i64 0, .int .i64 0, .int .i64 0, .int .i64 0], .int .i64 0, .agg #[.slice none 0 0, .int .i64 0, .int .i64 0]] (World.laidAll_os _ _ _) (by kernel_rfl) (by kernel_rfl) (by kernel_rfl)
      (OpenSpec.preRow_of_cond 8 hx (by kernel_rfl) (fun k hk => by cases hk) (by kernel_rfl) (laid_met os))) ?_
  intro W base args ds gs before hval hW _ _ _ hL _ _
  exact contract H enc W base args ds gs before hval hW hL

theorem said : Rows.EpochVerifiesSaid :=
  OpenClaim.holds_of_cond 5 Tryz.f5 rfl rfl rfl rfl rfl rfl rfl ⟨rfl, rfl, rfl, rfl, rfl⟩ rfl rfl rfl rfl rfl (by kernel_rfl) Tryz.func5 closed
    (of_decide_eq_true (by kernel_rfl)) (by unfold Func.isWrapper; first | (rw [if_pos (by decide +kernel)]; kernel_rfl) | (rw [if_neg (by decide +kernel)]; exact ⟨rfl, rfl⟩))
    (fun os started H enc _ F => by rw [OpenClaim.pre_eq_preRow]; exact lifted os started H enc F)

theorem plain (f : FuncId) (fn : Func) (hf : Tryz.pinned.checked.prog.funcNamed "specie/specielaw30.EpochVerifies" = some f) (hfn : Tryz.pinned.checked.prog.funcs[f]? = some fn) :
    false = Tryz.pinned.checked.prog.looks [] ∧ ∀ (j : Nat) t, fn.params[j]? = some t → Tryz.pinned.checked.prog.wantsStandIn t = false := by
  obtain rfl : f = 5 := Option.some.inj ((show Tryz.prog.funcNamed "specie/specielaw30.EpochVerifies" = some 5 by kernel_rfl).symm.trans hf) |>.symm
  obtain rfl : fn = Tryz.f5 := (Option.some.inj (Tryz.func5.symm.trans hfn)).symm
  refine ⟨by kernel_rfl, fun j t ht => ?_⟩
  have hall : Tryz.f5.params.toList.all (fun t => !Tryz.prog.wantsStandIn t) = true := by kernel_rfl
  have := List.all_eq_true.1 hall t (by rw [← Array.mem_toList_iff.symm]; exact Array.mem_of_getElem? ht)
  exact (by simpa using this : Tryz.prog.wantsStandIn t = false)

/-- The card. -/
theorem card : Rows.EpochVerifiesCardSaid :=
  Claim7.holds_tied_plain_at .later [] _ _ _ _ said (fun _ h => by cases h) (by kernel_rfl) (fun _ h => by cases h) epochVerifies_row_tie rfl ⟨rfl, rfl⟩ (by kernel_rfl) rfl plain (by kernel_rfl)
end Go.Proofs.YtoaomjdpiealfaaGreatDoor.lawEpochVerifies
