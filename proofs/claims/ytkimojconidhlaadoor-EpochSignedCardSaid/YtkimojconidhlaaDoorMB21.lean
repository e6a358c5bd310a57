/- Package signature: the check of arguments; the challenge. Restrictive signatures: which are right. The reference's restrictive signatures: which are right. Parts of slices. A part of a slice of integers, as one value that nobody looks into. -/
import Derived.Test.YtkimojconidhlaaDoorMB20
import Derived.Test.YtkimojconidhlaaDoorMB18
import Derived.Test.YtkimojconidhlaaDoorMB14
import Derived.Test.YtkimojconidhlaaDoorMB10
namespace Go.Proofs.YtkimojconidhlaaDoor
open Go.RowKit Go.Sp
set_option maxHeartbeats 8000000
set_option maxRecDepth 20000

theorem sigCheck_any (P Q G : Int) (v : Value) (xs : List Int) (w : World) (hP : -9223372036854775808 ≤ P) (hQ : Q ≤ 9223372036854775807) (hT : Tab w) (hv : IntsAt w v xs) :
    Calls Tryd.prog 22 #[grp P Q G, v] w fun e w' => e = .returned (.int .i64 (chkI P Q G xs)) ∧ Up w w' := by
  have HT := hid hT
  obtain ⟨E, hE⟩ : ∃ E, chkI P Q G xs = E := ⟨_, rfl⟩
  have HE : Hid (E = if gvB P Q G = true then (if xs.all (elB P Q) = true then 0 else 2) else 1) := hid hE.symm
  rw [hE]
  obtain ⟨l1, a1, cp1, rfl, hc1⟩ := hv
  have HC1 := hid hc1
  obtain ⟨n, hn⟩ : ∃ n, xs.length = n := ⟨_, rfl⟩
  have HN := hid hn
  rw [hn] at l1
  rw [hn]
  clear hc1 hn hT hE
  go_enter Tryd.func22, Tryd.ntmps22
  go_wp2_with fail
  refine (Valid_any P Q G _ hP hQ (HT.out.up ((Up.refl w).alloc _))).mono ?_
  rintro e w1 ⟨rfl, hU1⟩
  have HG1 := hid (box_reads rfl hU1)
  have HU1 := hid (((Up.refl w).alloc _).trans hU1)
  clear hU1
  obtain ⟨o, ho⟩ : ∃ o, w.heap.size = o := ⟨_, rfl⟩
  rw [ho] at HG1
  rw [ho]
  clear ho
  by_cases hg : gvB P Q G = true
  case neg =>
    have hE : E = 1 := by rw [HE.out, if_neg hg]
    have hg' : gvB P Q G = false := by simpa using hg
    subst hE
    rw [hg']
    clear hg hg'
    go_wp2
    go_ret
    exact ⟨rfl, HU1.out⟩
  have HE1 : Hid (E = if xs.all (elB P Q) = true then 0 else 2) := hid (by rw [HE.out, if_pos hg])
  have HCon : Hid (∀ x, conB P Q G x = elB P Q x) := hid (fun x => by rw [conB, hg]; rfl)
  rw [hg]
  clear hg HE
  go_wp2_with fail
  go_loopw [12] (fun vi wr => ∃ i : Nat, i ≤ n ∧ vi = .int .i64 i ∧ Hid (∀ j, j < i → (elB P Q) (xs.getD j 0) = true) ∧ Hid (Up w wr) ∧ Hid (GrpAt wr o P Q G)) (fun vi _ => n - (intOf vi).toNat)
  case atStart => exact ⟨0, by omega, rfl, hid (fun j hj => by omega), HU1, HG1⟩
  case round =>
    clear HU1 HG1
    obtain ⟨i, hi, rfl, HG, HU, HGr⟩ := hrel
    obtain ⟨c0, c1, c2⟩ := HGr.out
    by_cases hl : i < n
    · have hl1 : i < xs.length := by rw [HN.out]; exact hl
      obtain ⟨b1, o1, rfl, k1⟩ := ints_cell HC1.out HU.out hl1
      have HBi : Hid (elB P Q (xs.getD i 0) = false → E = 2) := hid (fun h => by rw [HE1.out, if_neg (by rw [not_all (xs := xs) (p := elB P Q) hl1 h]; decide)])
      have HS : Hid ((elB P Q) (xs.getD i 0) = true → ∀ j, j < i + 1 → (elB P Q) (xs.getD j 0) = true) := hid (fun h j hj => by
        rcases Nat.lt_or_ge j i with h3 | h3
        · exact HG.out j h3
        · obtain rfl : j = i := by omega
          exact h)
      clear hl1 HG
      generalize xs.getD i 0 = x at *
      go_wp2_with fail
      refine (Contains_any P Q G x _ hP hQ (HT.out.up HU.out)).mono ?_
      rintro e w3 ⟨rfl, hU3⟩
      rw [HCon.out x]
      have HU3 := hid (HU.out.trans hU3)
      have HG3 := hid (HGr.out.up hU3)
      clear hU3 c0 c1 c2
      by_cases hx : (elB P Q) x = true
      · have Hx := hid hx
        rw [hx]
        clear hx
        go_wp2_with fail
        go_roundw
        case rel => exact ⟨i + 1, by omega, by go_num, hid (HS.out Hx.out), HU3, HG3⟩
        case measure => simp [intOf]; omega
      · have hx' : (elB P Q) x = false := by simpa using hx
        obtain rfl := HBi.out hx'
        rw [hx']
        clear hx hx'
        go_wp2
        go_ret
        exact ⟨rfl, HU3.out⟩
    · obtain rfl : i = n := by omega
      have hX : E = 0 := by rw [HE1.out, if_pos (all_of (by rw [HN.out]; exact HG.out))]
      subst hX
      go_wp2
      go_ret
      exact ⟨rfl, HU.out⟩

def lbS : ByteArray := { data := #[115, 105, 103, 110, 97, 116, 117, 114, 101] }
def lbG : ByteArray := { data := #[103, 114, 111, 117, 112] }
def lbK : ByteArray := { data := #[107, 101, 121] }
def lbR : ByteArray := { data := #[99, 111, 109, 109, 105, 116, 109, 101, 110, 116] }
def lbM : ByteArray := { data := #[109, 101, 115, 115, 97, 103, 101] }
def lbC : ByteArray := { data := #[99, 104, 97, 108, 108, 101, 110, 103, 101] }
theorem labS : Lab lbS := ⟨by decide, by decide, by decide⟩
theorem labG : Lab lbG := ⟨by decide, by decide, by decide⟩
theorem labK : Lab lbK := ⟨by decide, by decide, by decide⟩
theorem labR : Lab lbR := ⟨by decide, by decide, by decide⟩
theorem labM : Lab lbM := ⟨by decide, by decide, by decide⟩
theorem labC : Lab lbC := ⟨by decide, by decide, by decide⟩
theorem sigC_lab (P Q G r y : Int) (m : List Int) : sigC P Q G r y m = chalN (absB (absB (absB (absB (trNew (txt lbS)) (txt lbG) (encInts [P, Q, G])) (txt lbK) (encInts [y])) (txt lbR) (encInts [r])) (txt lbM) (encBytes (hList (shaB m)))) (txt lbC) Q := by
  have e1 : txt lbS = lbSig := by decide
  have e2 : txt lbG = lbGroup := by decide
  have e3 : txt lbK = lbKey := by decide
  have e4 : txt lbR = lbComm := by decide
  have e5 : txt lbM = lbMsg := by decide
  have e6 : txt lbC = lbChal := by decide
  rw [e1, e2, e3, e4, e5, e6]
  rfl
theorem absB_byt (h : Nat → Int) (l e : List Int) : Byt (absB h l e) := tagB_range _ _
theorem trNew_byt (l : List Int) : Byt (trNew l) := tagB_range _ _

theorem zero34 : #[.int .u8 0, .int .u8 0, .int .u8 0, .int .u8 0, .int .u8 0, .int .u8 0, .int .u8 0, .int .u8 0, .int .u8 0, .int .u8 0, .int .u8 0, .int .u8 0, .int .u8 0, .int .u8 0, .int .u8 0, .int .u8 0, .int .u8 0, .int .u8 0, .int .u8 0, .int .u8 0, .int .u8 0, .int .u8 0, .int .u8 0, .int .u8 0, .int .u8 0, .int .u8 0, .int .u8 0, .int .u8 0, .int .u8 0, .int .u8 0, .int .u8 0, .int .u8 0, .int .i64 0, .int .i64 0] = wriA zeroH 0 0 := by kernel_rfl

theorem grp_row {w : World} {g k : Nat} {P Q G : Int} {cs : Array Value} (h : GrpAt w g P Q G) (hk : g ≠ k) : GrpAt (w.setRow k cs) g P Q G := by
  obtain ⟨c0, c1, c2⟩ := h
  have e := setRow_other w k g cs hk
  exact ⟨by rw [World.cell?_of_block (w := w) e]; exact c0, by rw [World.cell?_of_block (w := w) e]; exact c1, by rw [World.cell?_of_block (w := w) e]; exact c2⟩

theorem grp_grown {w w' : World} {g b : Nat} {P Q G : Int} (h : GrpAt w g P Q G) (hg : w.grownBy w' (some b)) (hne : g ≠ b) : GrpAt w' g P Q G := by
  obtain ⟨c0, c1, c2⟩ := h
  have hk := hg.block g (cell_lt c0) (fun e => hne (by injection e))
  exact ⟨by rw [World.cell?_of_block (w := w) hk]; exact c0, by rw [World.cell?_of_block (w := w) hk]; exact c1, by rw [World.cell?_of_block (w := w) hk]; exact c2⟩

theorem sigChallenge_ok (P Q G r y : Int) (v : Value) (m : List Int) (w : World) (hT : Tab w) (hS : TabS w) (hg : gvB P Q G = true) (hr : elB P Q r = true) (hy : elB P Q y = true) (hv : SeqAt .u8 w v m) (hl : m.length ≤ 16384) (hm : ∀ x ∈ m, 0 ≤ x ∧ x ≤ 255) :
    Calls Tryd.prog 33 #[grp P Q G, .int .i64 r, .int .i64 y, v] w fun e w' => e = .returned (.tuple #[.int .i64 (sigC P Q G r y m), .int .i64 0]) ∧ Up w w' := by
  have g := gv_iff.1 hg
  have g1 := g.P61
  have g2 := g.P4
  have g3 := g.Q3
  have g4 := g.QP
  have M1 := hid (fun w' (v' : Value) (hU : Up w w') (hv' : IntsAt w' v' [r, y]) => sigCheck_any P Q G v' [r, y] w' (by omega) (by omega) (hT.up hU) hv')
  rw [show chkI P Q G [r, y] = 0 from chkI_ok hg (by simp [hr, hy])] at M1
  have M2 := hid (fun w' (hU : Up w w') => Sum_any v m w' (hS.up hU) (hv.up hU) (by omega) hm)
  have M3 := hid (fun w' (hU : Up w w') => tNew_ok lbS w' (hS.up hU) labS)
  have HV := hid (sigC_lab P Q G r y m)
  have HDb : Hid (Byt (shaB m)) := hid (shaB_range m)
  generalize sigC P Q G r y m = V at *
  generalize shaB m = D at *
  have HT0 := hid (trNew_byt (txt lbS))
  generalize trNew (txt lbS) = T0 at *
  have HS := hid hS
  obtain ⟨va, vc, rfl, _, _⟩ := hv.shape
  obtain ⟨n, hn⟩ : ∃ n, m.length = n := ⟨_, rfl⟩
  rw [hn] at hl M2
  rw [hn]
  have dl : decide ((n : Int) > 16384) = false := by simp; omega
  have q0 : 2 ≤ Q := by omega
  have q1 : Q < 2305843009213693952 := by omega
  clear hT hS hg hr hy hv hm g g1 g2 g3 g4 hn
  obtain ⟨o, ho⟩ : ∃ o, w.heap.size = o := ⟨_, rfl⟩
  have HO := hid ho
  clear ho
  go_enter Tryd.func33, Tryd.ntmps33
  go_wp2_with fail
  refine (M1.out _ _ (((Up.refl w).alloc _).alloc _) (ints_two (by go_simp) (by go_simp))).mono ?_
  rintro e w1 ⟨rfl, hU1⟩
  have HA1 := hid ((((nums_three (w := w) (t := 23) HO.out).up ((Up.refl _).alloc _)).up hU1))
  have HU1 := hid ((((Up.refl w).alloc _).alloc _).trans hU1)
  rw [HO.out]
  clear hU1
  obtain ⟨c0, c1, c2⟩ := HA1.out
  go_wp2_with fail
  refine (M2.out _ HU1.out).mono ?_
  rintro e w2 ⟨rfl, hU2⟩
  have HA2 := hid (HA1.out.up hU2)
  have HU2 := hid (HU1.out.trans hU2)
  clear hU2 HA1 HU1 c0 c1 c2
  obtain ⟨c0, c1, c2⟩ := HA2.out
  have lo2 := cell_lt c0
  unfold hashV
  go_wp2_with (first
    | (refine wpList_store_rowTo rfl 28 _ _ rfl rfl _ _ rfl rfl 28 _ (heap_alloc_new _ _) (by rw [arrK_size]; kernel_rfl) (by rw [arrK_size]; rfl) arrK_one ?_; rw [World.setRow_alloc_new]))
  obtain ⟨oh, hoh⟩ : ∃ oh, w2.heap.size = oh := ⟨_, rfl⟩
  have HOh := hid hoh
  obtain ⟨b, hb⟩ : ∃ b, oh + 1 = b := ⟨_, rfl⟩
  have HBb := hid hb
  refine (M3.out _ ((HU2.out.alloc _).alloc _)).mono ?_
  rintro e w3 ⟨rfl, hU3⟩
  have HA3 := hid ((HA2.out.up (((Up.refl _).alloc _).alloc _)).up hU3)
  have HC3 : Hid (Blk w3 oh 28 (arrK .u8 D 32)) := hid (((Blk.new hoh rfl).alloc _).up hU3)
  have HW3 : Hid (Blk w3 b 110 (wriA zeroH 0 0)) := hid ((Blk.new (by simp [hoh, hb]) zero34).up hU3)
  have HU3 := hid (((HU2.out.alloc _).alloc _).trans hU3)
  rw [hoh, hb]
  have lob : o < oh := by omega
  have lwb : w.heap.size ≤ oh := by have := HU2.out.size; omega
  clear hU3 HA2 HU2 c0 c1 c2 lo2 hoh hb
  have hW4 : Blk (w3.setCells b 0 (drwA T0 0).toList) b 110 (wriA T0 0 0) := wri_put HW3.out
  have hG4 := grown_sets (b := b) (drwA T0 0).toList 0 (grown_up (b := b) (Up.refl w3))
  have q33 := hW4.val (wriA_err T0 0 0)
  have y33 := hW4.thawed 33
  have HTh := hid ((Blk.there HW3.out (n := 33) (by rw [wriA_size]; omega)))
  have HTz := hid (sizeTr T0 0)
  have HW4 := hid hW4
  have HG4 := hid hG4
  clear hW4 hG4
  unfold drw
  go_wp2_with (refine wpList_store_mid rfl 108 _ _ rfl b 0 (drwA T0 0) rfl rfl (by rw [drwA_size]; exact HTh.out) HTz.out (drwA_one _ _) ?_)
  have HG5 := hid (grown_set (b := b) HG4.out 33 (.int .i64 0))
  have HW5 : Hid (Blk ((w3.setCells b 0 (drwA T0 0).toList).setCell ⟨b, 33, none⟩ (.int .i64 0)) b 110 (wriA T0 0 0)) := hid (by
    have := HW4.out.wrote 33 (.int .i64 0)
    rwa [wriA_zero] at this)
  clear HW4 HG4 q33 y33 HTh
  generalize (w3.setCells b 0 (drwA T0 0).toList).setCell ⟨b, 33, none⟩ (.int .i64 0) = w4 at *
  have hne1 : o ≠ b := by have := HBb.out; omega
  have hne2 : oh ≠ b := by have := HBb.out; omega
  have lbw : w.heap.size ≤ b := by have := HBb.out; omega
  have HA4 : Hid (GrpAt w4 o P Q G) := hid (by
    obtain ⟨c0, c1, c2⟩ := HA3.out
    have hk := HG5.out.block o (cell_lt c0) (fun e => hne1 (by injection e))
    exact ⟨by rw [World.cell?_of_block (w := w3) hk]; exact c0, by rw [World.cell?_of_block (w := w3) hk]; exact c1, by rw [World.cell?_of_block (w := w3) hk]; exact c2⟩)
  have HC4 := hid (Blk.grownOut HC3.out HG5.out hne2)
  have HU4 := hid (Up.grownNew HU3.out HG5.out lbw)
  clear HA3 HC3 HW3 HU3 HG5
  have N1 := hid (fun w' (v' : Value) (hU : Up w w') (hv' : IntsAt w' v' [P, Q, G]) hb => wints_ok T0 0 lbG v' [P, Q, G] b w' (HS.out.up hU) HT0.out (by omega) (by omega) labG hv' (by simp) hb)
  have HT1 := hid (absB_byt T0 (txt lbG) (encInts [P, Q, G]))
  generalize absB T0 (txt lbG) (encInts [P, Q, G]) = T1 at *
  have N2 := hid (fun w' (v' : Value) (hU : Up w w') (hv' : IntsAt w' v' [y]) hb => wints_ok T1 1 lbK v' [y] b w' (HS.out.up hU) HT1.out (by omega) (by omega) labK hv' (by simp) hb)
  have HT2 := hid (absB_byt T1 (txt lbK) (encInts [y]))
  generalize absB T1 (txt lbK) (encInts [y]) = T2 at *
  have N3 := hid (fun w' (v' : Value) (hU : Up w w') (hv' : IntsAt w' v' [r]) hb => wints_ok T2 2 lbR v' [r] b w' (HS.out.up hU) HT2.out (by omega) (by omega) labR hv' (by simp) hb)
  have HT3 := hid (absB_byt T2 (txt lbR) (encInts [r]))
  generalize absB T2 (txt lbR) (encInts [r]) = T3 at *
  have N4 := hid (fun w' (v' : Value) (hU : Up w w') (hv' : SeqAt .u8 w' v' (hList D)) hb => wbytes_ok T3 3 lbM v' (hList D) b w' (HS.out.up hU) HT3.out (by omega) (by omega) labM hv' (by rw [hList_length]; omega) (hList_bytes HDb.out) hb)
  have HT4 := hid (absB_byt T3 (txt lbM) (encBytes (hList D)))
  generalize absB T3 (txt lbM) (encBytes (hList D)) = T4 at *
  have M5 := hid (fun w' (hU : Up w w') => tChallenge_ok T4 4 lbC Q w' (HS.out.up hU) HT4.out (by omega) (by omega) labC q0 q1)
  rw [← HV.out] at M5
  have HSq : Hid (∀ w', Blk w' oh 28 (arrK .u8 D 32) → SeqAt .u8 w' (.slice (some ⟨oh, 0, none⟩) 32 32) (hList D)) := hid (fun w' hb => seedAt hb (fun i hi => arrK_get hi))
  generalize arrK .u8 D 32 = cs at *
  clear HT0 HT1 HT2 HT3 HT4 HDb HV HS q0 q1
  go_cut [57] from 41 (fun vp w' => vp = .pointer (some ⟨b, 0, none⟩) ∧ Hid (Up w w') ∧ Hid (GrpAt w' o P Q G) ∧ Hid (Blk w' b 110 (wriA T4 4 0)))
  case first =>
    refine region_E (fun w' => GrpAt w' o P Q G) 17 (by kernel_rfl) (HA4.out.up (Up.refl _).drew) fun hS => ?_
    refine anyE_takeA (i := 0) (v := ?_) 41 rfl rfl (by kernel_rfl) (by decide) (fun _ _ _ h => h) (by kernel_rfl) (by kernel_rfl) (.inl ⟨by rfl, fun u hu => ?_⟩) hS ?_
    rotate_left
    · (obtain ⟨u0, u1, u2⟩ := hu; go_simp; first | done | with_reducible rfl)
    simp only [Act.put, List.setIfInBounds_toArray, List.set_cons_zero, List.set_cons_succ]
    refine anyE_takeA (i := 1) (v := ?_) 42 rfl rfl (by kernel_rfl) (by decide) (fun _ _ _ h => h) (by kernel_rfl) (by kernel_rfl) (.inl ⟨by rfl, fun u hu => ?_⟩) hS ?_
    rotate_left
    · (obtain ⟨u0, u1, u2⟩ := hu; go_simp; first | done | with_reducible rfl)
    simp only [Act.put, List.setIfInBounds_toArray, List.set_cons_zero, List.set_cons_succ]
    refine anyE_takeA (i := 2) (v := ?_) 43 rfl rfl (by kernel_rfl) (by decide) (fun _ _ _ h => h) (by kernel_rfl) (by kernel_rfl) (.inl ⟨by rfl, fun u hu => ?_⟩) hS ?_
    rotate_left
    · (obtain ⟨u0, u1, u2⟩ := hu; go_simp; first | done | with_reducible rfl)
    simp only [Act.put, List.setIfInBounds_toArray, List.set_cons_zero, List.set_cons_succ]
    refine anyE_takeA (i := 3) (v := ?_) 44 rfl rfl (by kernel_rfl) (by decide) (fun _ _ _ h => h) (by kernel_rfl) (by kernel_rfl) (.inl ⟨by rfl, fun u hu => ?_⟩) hS ?_
    rotate_left
    · (obtain ⟨u0, u1, u2⟩ := hu; go_simp; first | done | with_reducible rfl)
    simp only [Act.put, List.setIfInBounds_toArray, List.set_cons_zero, List.set_cons_succ]
    refine anyE_takeA (i := 4) (v := ?_) 45 rfl rfl (by kernel_rfl) (by decide) (fun _ _ _ h => h) (by kernel_rfl) (by kernel_rfl) (.inl ⟨by rfl, fun u hu => ?_⟩) hS ?_
    rotate_left
    · (obtain ⟨u0, u1, u2⟩ := hu; go_simp; first | done | with_reducible rfl)
    simp only [Act.put, List.setIfInBounds_toArray, List.set_cons_zero, List.set_cons_succ]
    refine anyE_takeA (i := 5) (v := ?_) 46 rfl rfl (by kernel_rfl) (by decide) (fun _ _ _ h => h) (by kernel_rfl) (by kernel_rfl) (.inl ⟨by rfl, fun u hu => ?_⟩) hS ?_
    rotate_left
    · (obtain ⟨u0, u1, u2⟩ := hu; go_simp; first | done | with_reducible rfl)
    simp only [Act.put, List.setIfInBounds_toArray, List.set_cons_zero, List.set_cons_succ]
    refine anyE_takeA (i := 6) (v := ?_) 47 rfl rfl (by kernel_rfl) (by decide) (fun _ _ _ h => h) (by kernel_rfl) (by kernel_rfl) (.inl ⟨by rfl, fun u hu => ?_⟩) hS ?_
    rotate_left
    · (obtain ⟨u0, u1, u2⟩ := hu; go_simp; first | done | with_reducible rfl)
    simp only [Act.put, List.setIfInBounds_toArray, List.set_cons_zero, List.set_cons_succ]
    refine anyE_takeA (i := 9) (v := ?_) 50 rfl rfl (by kernel_rfl) (by decide) (fun _ _ _ h => h) (by kernel_rfl) (by kernel_rfl) (.inl ⟨by rfl, fun u hu => ?_⟩) hS ?_
    rotate_left
    · (obtain ⟨u0, u1, u2⟩ := hu; go_simp; first | done | with_reducible rfl)
    simp only [Act.put, List.setIfInBounds_toArray, List.set_cons_zero, List.set_cons_succ]
    refine anyE_takeA (i := 12) (v := ?_) 53 rfl rfl (by kernel_rfl) (by decide) (fun _ _ _ h => h) (by kernel_rfl) (by kernel_rfl) (.inl ⟨by rfl, fun u hu => ?_⟩) hS ?_
    rotate_left
    · (obtain ⟨u0, u1, u2⟩ := hu; go_simp; first | done | with_reducible rfl)
    simp only [Act.put, List.setIfInBounds_toArray, List.set_cons_zero, List.set_cons_succ]
    refine anyE_takeA (i := 15) (v := ?_) 56 rfl rfl (by kernel_rfl) (by decide) (fun _ _ _ h => h) (by kernel_rfl) (by kernel_rfl) (.inl ⟨by rfl, fun u hu => ?_⟩) hS ?_
    rotate_left
    · (obtain ⟨u0, u1, u2⟩ := hu; go_simp; first | done | with_reducible rfl)
    simp only [Act.put, List.setIfInBounds_toArray, List.set_cons_zero, List.set_cons_succ]
    have hA : GrpAt w4.drew o P Q G := hS
    have hW := Blk.up HW5.out (Up.refl w4).drew
    have hC := Blk.up HC4.out (Up.refl w4).drew
    have hU := HU4.out.drew
    clear hS
    generalize w4.drew = v0 at *
    refine anyE_three 7 10 13 (by kernel_rfl) ⟨_, rfl, rfl, fun K hK => ?_⟩ ⟨_, rfl, rfl, fun K hK => ?_⟩ ⟨_, rfl, rfl, fun K hK => ?_⟩
    · go_simp
      obtain ⟨g7, hg7⟩ : ∃ g7, v0.heap.size = g7 := ⟨_, rfl⟩
      have hb7 : Blk (v0.alloc (.cells #[.int .i64 P, .int .i64 Q, .int .i64 G] 3)) g7 3 #[.int .i64 P, .int .i64 Q, .int .i64 G] := Blk.new hg7 rfl
      have hn7 : g7 ≠ b := by have := hW.lt; omega
      have hA := hA.up ((Up.refl v0).alloc (.cells #[.int .i64 P, .int .i64 Q, .int .i64 G] 3))
      have hW := hW.alloc (.cells #[.int .i64 P, .int .i64 Q, .int .i64 G] 3)
      have hC := hC.alloc (.cells #[.int .i64 P, .int .i64 Q, .int .i64 G] 3)
      have hU := hU.alloc (.cells #[.int .i64 P, .int .i64 Q, .int .i64 G] 3)
      rw [hg7]
      refine hK.out _ _ (.inr hA) ?_
      clear hK
      try simp only [Act.put, List.setIfInBounds_toArray, List.set_cons_zero, List.set_cons_succ]
      generalize (v0.alloc (.cells #[.int .i64 P, .int .i64 Q, .int .i64 G] 3)) = v1 at *
      refine anyE_three 8 10 13 (by kernel_rfl) ⟨_, rfl, rfl, fun K hK => ?_⟩ ⟨_, rfl, rfl, fun K hK => ?_⟩ ⟨_, rfl, rfl, fun K hK => ?_⟩
      · go_simp
        refine (N1.out _ _ hU (ints_three (hb7.val (i := 0) rfl) (hb7.val (i := 1) rfl) (hb7.val (i := 2) rfl)) hW).mono ?_
        rintro e v2 ⟨rfl, hWv2, hgv2⟩
        dsimp only
        have hA := grp_grown hA hgv2 hne1
        have hC := Blk.grownOut hC hgv2 hne2
        have hU := Up.grownNew hU hgv2 lbw
        have hW : Blk v2 b 110 (wriA T1 1 0) := hWv2
        refine hK.out _ _ (.inr hA) ?_
        clear hK
        try simp only [Act.put, List.setIfInBounds_toArray, List.set_cons_zero, List.set_cons_succ]
        refine anyE_two 10 13 (by kernel_rfl) ⟨_, rfl, rfl, fun K hK => ?_⟩ ⟨_, rfl, rfl, fun K hK => ?_⟩
        · go_simp
          obtain ⟨g10, hg10⟩ : ∃ g10, v2.heap.size = g10 := ⟨_, rfl⟩
          have hb10 : Blk (v2.alloc (.cells #[.int .i64 y] 3)) g10 3 #[.int .i64 y] := Blk.new hg10 rfl
          have hn10 : g10 ≠ b := by have := hW.lt; omega
          have hA := hA.up ((Up.refl v2).alloc (.cells #[.int .i64 y] 3))
          have hW := hW.alloc (.cells #[.int .i64 y] 3)
          have hC := hC.alloc (.cells #[.int .i64 y] 3)
          have hU := hU.alloc (.cells #[.int .i64 y] 3)
          rw [hg10]
          refine hK.out _ _ (.inr hA) ?_
          clear hK
          try simp only [Act.put, List.setIfInBounds_toArray, List.set_cons_zero, List.set_cons_succ]
          generalize (v2.alloc (.cells #[.int .i64 y] 3)) = v3 at *
          refine anyE_two 11 13 (by kernel_rfl) ⟨_, rfl, rfl, fun K hK => ?_⟩ ⟨_, rfl, rfl, fun K hK => ?_⟩
          · go_simp
            refine (N2.out _ _ hU (ints_one (hb10.val (i := 0) rfl)) hW).mono ?_
            rintro e v4 ⟨rfl, hWv4, hgv4⟩
            dsimp only
            have hA := grp_grown hA hgv4 hne1
            have hC := Blk.grownOut hC hgv4 hne2
            have hU := Up.grownNew hU hgv4 lbw
            have hW : Blk v4 b 110 (wriA T2 2 0) := hWv4
            refine hK.out _ _ (.inr hA) ?_
            clear hK
            try simp only [Act.put, List.setIfInBounds_toArray, List.set_cons_zero, List.set_cons_succ]
            refine anyE_one (i := 13) rfl (by kernel_rfl) rfl (fun K hK => ?_)
            go_simp
            obtain ⟨g13, hg13⟩ : ∃ g13, v4.heap.size = g13 := ⟨_, rfl⟩
            have hb13 : Blk (v4.alloc (.cells #[.int .i64 r] 3)) g13 3 #[.int .i64 r] := Blk.new hg13 rfl
            have hn13 : g13 ≠ b := by have := hW.lt; omega
            have hA := hA.up ((Up.refl v4).alloc (.cells #[.int .i64 r] 3))
            have hW := hW.alloc (.cells #[.int .i64 r] 3)
            have hC := hC.alloc (.cells #[.int .i64 r] 3)
            have hU := hU.alloc (.cells #[.int .i64 r] 3)
            rw [hg13]
            refine hK.out _ _ (.inr hA) ?_
            clear hK
            try simp only [Act.put, List.setIfInBounds_toArray, List.set_cons_zero, List.set_cons_succ]
            generalize (v4.alloc (.cells #[.int .i64 r] 3)) = v5 at *
            refine anyE_one (i := 14) rfl (by kernel_rfl) rfl (fun K hK => ?_)
            go_simp
            refine (N3.out _ _ hU (ints_one (hb13.val (i := 0) rfl)) hW).mono ?_
            rintro e v6 ⟨rfl, hWv6, hgv6⟩
            dsimp only
            have hA := grp_grown hA hgv6 hne1
            have hC := Blk.grownOut hC hgv6 hne2
            have hU := Up.grownNew hU hgv6 lbw
            have hW : Blk v6 b 110 (wriA T3 3 0) := hWv6
            refine hK.out _ _ (.inr hA) ?_
            clear hK
            try simp only [Act.put, List.setIfInBounds_toArray, List.set_cons_zero, List.set_cons_succ]
            refine anyE_one (i := 16) rfl (by kernel_rfl) rfl (fun K hK => ?_)
            go_simp
            refine (N4.out _ _ hU (HSq.out _ hC) hW).mono ?_
            rintro e v7 ⟨rfl, hWv7, hgv7⟩
            dsimp only
            have hA := grp_grown hA hgv7 hne1
            have hC := Blk.grownOut hC hgv7 hne2
            have hU := Up.grownNew hU hgv7 lbw
            have hW : Blk v7 b 110 (wriA T4 4 0) := hWv7
            refine hK.out _ _ (.inr hA) (anyE_done (by kernel_rfl) ?_ _)
            try simp only [Act.put, List.setIfInBounds_toArray, List.set_cons_zero, List.set_cons_succ]
            clear hK
            go_wp2_with fail
            go_meet
            exact ⟨rfl, hid hU, hid hA, hid hW⟩
          · go_simp
            obtain ⟨g13, hg13⟩ : ∃ g13, v3.heap.size = g13 := ⟨_, rfl⟩
            have hb13 : Blk (v3.alloc (.cells #[.int .i64 r] 3)) g13 3 #[.int .i64 r] := Blk.new hg13 rfl
            have hn13 : g13 ≠ b := by have := hW.lt; omega
            have hb10 := hb10.alloc (.cells #[.int .i64 r] 3)
            have hA := hA.up ((Up.refl v3).alloc (.cells #[.int .i64 r] 3))
            have hW := hW.alloc (.cells #[.int .i64 r] 3)
            have hC := hC.alloc (.cells #[.int .i64 r] 3)
            have hU := hU.alloc (.cells #[.int .i64 r] 3)
            rw [hg13]
            refine hK.out _ _ (.inr hA) ?_
            clear hK
            try simp only [Act.put, List.setIfInBounds_toArray, List.set_cons_zero, List.set_cons_succ]
            generalize (v3.alloc (.cells #[.int .i64 r] 3)) = v8 at *
            refine anyE_one (i := 11) rfl (by kernel_rfl) rfl (fun K hK => ?_)
            go_simp
            refine (N2.out _ _ hU (ints_one (hb10.val (i := 0) rfl)) hW).mono ?_
            rintro e v9 ⟨rfl, hWv9, hgv9⟩
            dsimp only
            have hb13 := Blk.grownOut hb13 hgv9 hn13
            have hA := grp_grown hA hgv9 hne1
            have hC := Blk.grownOut hC hgv9 hne2
            have hU := Up.grownNew hU hgv9 lbw
            have hW : Blk v9 b 110 (wriA T2 2 0) := hWv9
            refine hK.out _ _ (.inr hA) ?_
            clear hK
            try simp only [Act.put, List.setIfInBounds_toArray, List.set_cons_zero, List.set_cons_succ]
            refine anyE_one (i := 14) rfl (by kernel_rfl) rfl (fun K hK => ?_)
            go_simp
            refine (N3.out _ _ hU (ints_one (hb13.val (i := 0) rfl)) hW).mono ?_
            rintro e v10 ⟨rfl, hWv10, hgv10⟩
            dsimp only
            have hA := grp_grown hA hgv10 hne1
            have hC := Blk.grownOut hC hgv10 hne2
            have hU := Up.grownNew hU hgv10 lbw
            have hW : Blk v10 b 110 (wriA T3 3 0) := hWv10
            refine hK.out _ _ (.inr hA) ?_
            clear hK
            try simp only [Act.put, List.setIfInBounds_toArray, List.set_cons_zero, List.set_cons_succ]
            refine anyE_one (i := 16) rfl (by kernel_rfl) rfl (fun K hK => ?_)
            go_simp
            refine (N4.out _ _ hU (HSq.out _ hC) hW).mono ?_
            rintro e v11 ⟨rfl, hWv11, hgv11⟩
            dsimp only
            have hA := grp_grown hA hgv11 hne1
            have hC := Blk.grownOut hC hgv11 hne2
            have hU := Up.grownNew hU hgv11 lbw
            have hW : Blk v11 b 110 (wriA T4 4 0) := hWv11
            refine hK.out _ _ (.inr hA) (anyE_done (by kernel_rfl) ?_ _)
            try simp only [Act.put, List.setIfInBounds_toArray, List.set_cons_zero, List.set_cons_succ]
            clear hK
            go_wp2_with fail
            go_meet
            exact ⟨rfl, hid hU, hid hA, hid hW⟩
        · go_simp
          obtain ⟨g13, hg13⟩ : ∃ g13, v2.heap.size = g13 := ⟨_, rfl⟩
          have hb13 : Blk (v2.alloc (.cells #[.int .i64 r] 3)) g13 3 #[.int .i64 r] := Blk.new hg13 rfl
          have hn13 : g13 ≠ b := by have := hW.lt; omega
          have hA := hA.up ((Up.refl v2).alloc (.cells #[.int .i64 r] 3))
          have hW := hW.alloc (.cells #[.int .i64 r] 3)
          have hC := hC.alloc (.cells #[.int .i64 r] 3)
          have hU := hU.alloc (.cells #[.int .i64 r] 3)
          rw [hg13]
          refine hK.out _ _ (.inr hA) ?_
          clear hK
          try simp only [Act.put, List.setIfInBounds_toArray, List.set_cons_zero, List.set_cons_succ]
          generalize (v2.alloc (.cells #[.int .i64 r] 3)) = v12 at *
          refine anyE_one (i := 10) rfl (by kernel_rfl) rfl (fun K hK => ?_)
          go_simp
          obtain ⟨g10, hg10⟩ : ∃ g10, v12.heap.size = g10 := ⟨_, rfl⟩
          have hb10 : Blk (v12.alloc (.cells #[.int .i64 y] 3)) g10 3 #[.int .i64 y] := Blk.new hg10 rfl
          have hn10 : g10 ≠ b := by have := hW.lt; omega
          have hb13 := hb13.alloc (.cells #[.int .i64 y] 3)
          have hA := hA.up ((Up.refl v12).alloc (.cells #[.int .i64 y] 3))
          have hW := hW.alloc (.cells #[.int .i64 y] 3)
          have hC := hC.alloc (.cells #[.int .i64 y] 3)
          have hU := hU.alloc (.cells #[.int .i64 y] 3)
          rw [hg10]
          refine hK.out _ _ (.inr hA) ?_
          clear hK
          try simp only [Act.put, List.setIfInBounds_toArray, List.set_cons_zero, List.set_cons_succ]
          generalize (v12.alloc (.cells #[.int .i64 y] 3)) = v13 at *
          refine anyE_one (i := 11) rfl (by kernel_rfl) rfl (fun K hK => ?_)
          go_simp
          refine (N2.out _ _ hU (ints_one (hb10.val (i := 0) rfl)) hW).mono ?_
          rintro e v14 ⟨rfl, hWv14, hgv14⟩
          dsimp only
          have hb13 := Blk.grownOut hb13 hgv14 hn13
          have hA := grp_grown hA hgv14 hne1
          have hC := Blk.grownOut hC hgv14 hne2
          have hU := Up.grownNew hU hgv14 lbw
          have hW : Blk v14 b 110 (wriA T2 2 0) := hWv14
          refine hK.out _ _ (.inr hA) ?_
          clear hK
          try simp only [Act.put, List.setIfInBounds_toArray, List.set_cons_zero, List.set_cons_succ]
          refine anyE_one (i := 14) rfl (by kernel_rfl) rfl (fun K hK => ?_)
          go_simp
          refine (N3.out _ _ hU (ints_one (hb13.val (i := 0) rfl)) hW).mono ?_
          rintro e v15 ⟨rfl, hWv15, hgv15⟩
          dsimp only
          have hA := grp_grown hA hgv15 hne1
          have hC := Blk.grownOut hC hgv15 hne2
          have hU := Up.grownNew hU hgv15 lbw
          have hW : Blk v15 b 110 (wriA T3 3 0) := hWv15
          refine hK.out _ _ (.inr hA) ?_
          clear hK
          try simp only [Act.put, List.setIfInBounds_toArray, List.set_cons_zero, List.set_cons_succ]
          refine anyE_one (i := 16) rfl (by kernel_rfl) rfl (fun K hK => ?_)
          go_simp
          refine (N4.out _ _ hU (HSq.out _ hC) hW).mono ?_
          rintro e v16 ⟨rfl, hWv16, hgv16⟩
          dsimp only
          have hA := grp_grown hA hgv16 hne1
          have hC := Blk.grownOut hC hgv16 hne2
          have hU := Up.grownNew hU hgv16 lbw
          have hW : Blk v16 b 110 (wriA T4 4 0) := hWv16
          refine hK.out _ _ (.inr hA) (anyE_done (by kernel_rfl) ?_ _)
          try simp only [Act.put, List.setIfInBounds_toArray, List.set_cons_zero, List.set_cons_succ]
          clear hK
          go_wp2_with fail
          go_meet
          exact ⟨rfl, hid hU, hid hA, hid hW⟩
      · go_simp
        obtain ⟨g10, hg10⟩ : ∃ g10, v1.heap.size = g10 := ⟨_, rfl⟩
        have hb10 : Blk (v1.alloc (.cells #[.int .i64 y] 3)) g10 3 #[.int .i64 y] := Blk.new hg10 rfl
        have hn10 : g10 ≠ b := by have := hW.lt; omega
        have hb7 := hb7.alloc (.cells #[.int .i64 y] 3)
        have hA := hA.up ((Up.refl v1).alloc (.cells #[.int .i64 y] 3))
        have hW := hW.alloc (.cells #[.int .i64 y] 3)
        have hC := hC.alloc (.cells #[.int .i64 y] 3)
        have hU := hU.alloc (.cells #[.int .i64 y] 3)
        rw [hg10]
        refine hK.out _ _ (.inr hA) ?_
        clear hK
        try simp only [Act.put, List.setIfInBounds_toArray, List.set_cons_zero, List.set_cons_succ]
        generalize (v1.alloc (.cells #[.int .i64 y] 3)) = v17 at *
        refine anyE_two 8 13 (by kernel_rfl) ⟨_, rfl, rfl, fun K hK => ?_⟩ ⟨_, rfl, rfl, fun K hK => ?_⟩
        · go_simp
          refine (N1.out _ _ hU (ints_three (hb7.val (i := 0) rfl) (hb7.val (i := 1) rfl) (hb7.val (i := 2) rfl)) hW).mono ?_
          rintro e v18 ⟨rfl, hWv18, hgv18⟩
          dsimp only
          have hb10 := Blk.grownOut hb10 hgv18 hn10
          have hA := grp_grown hA hgv18 hne1
          have hC := Blk.grownOut hC hgv18 hne2
          have hU := Up.grownNew hU hgv18 lbw
          have hW : Blk v18 b 110 (wriA T1 1 0) := hWv18
          refine hK.out _ _ (.inr hA) ?_
          clear hK
          try simp only [Act.put, List.setIfInBounds_toArray, List.set_cons_zero, List.set_cons_succ]
          refine anyE_two 11 13 (by kernel_rfl) ⟨_, rfl, rfl, fun K hK => ?_⟩ ⟨_, rfl, rfl, fun K hK => ?_⟩
          · go_simp
            refine (N2.out _ _ hU (ints_one (hb10.val (i := 0) rfl)) hW).mono ?_
            rintro e v19 ⟨rfl, hWv19, hgv19⟩
            dsimp only
            have hA := grp_grown hA hgv19 hne1
            have hC := Blk.grownOut hC hgv19 hne2
            have hU := Up.grownNew hU hgv19 lbw
            have hW : Blk v19 b 110 (wriA T2 2 0) := hWv19
            refine hK.out _ _ (.inr hA) ?_
            clear hK
            try simp only [Act.put, List.setIfInBounds_toArray, List.set_cons_zero, List.set_cons_succ]
            refine anyE_one (i := 13) rfl (by kernel_rfl) rfl (fun K hK => ?_)
            go_simp
            obtain ⟨g13, hg13⟩ : ∃ g13, v19.heap.size = g13 := ⟨_, rfl⟩
            have hb13 : Blk (v19.alloc (.cells #[.int .i64 r] 3)) g13 3 #[.int .i64 r] := Blk.new hg13 rfl
            have hn13 : g13 ≠ b := by have := hW.lt; omega
            have hA := hA.up ((Up.refl v19).alloc (.cells #[.int .i64 r] 3))
            have hW := hW.alloc (.cells #[.int .i64 r] 3)
            have hC := hC.alloc (.cells #[.int .i64 r] 3)
            have hU := hU.alloc (.cells #[.int .i64 r] 3)
            rw [hg13]
            refine hK.out _ _ (.inr hA) ?_
            clear hK
            try simp only [Act.put, List.setIfInBounds_toArray, List.set_cons_zero, List.set_cons_succ]
            generalize (v19.alloc (.cells #[.int .i64 r] 3)) = v20 at *
            refine anyE_one (i := 14) rfl (by kernel_rfl) rfl (fun K hK => ?_)
            go_simp
            refine (N3.out _ _ hU (ints_one (hb13.val (i := 0) rfl)) hW).mono ?_
            rintro e v21 ⟨rfl, hWv21, hgv21⟩
            dsimp only
            have hA := grp_grown hA hgv21 hne1
            have hC := Blk.grownOut hC hgv21 hne2
            have hU := Up.grownNew hU hgv21 lbw
            have hW : Blk v21 b 110 (wriA T3 3 0) := hWv21
            refine hK.out _ _ (.inr hA) ?_
            clear hK
            try simp only [Act.put, List.setIfInBounds_toArray, List.set_cons_zero, List.set_cons_succ]
            refine anyE_one (i := 16) rfl (by kernel_rfl) rfl (fun K hK => ?_)
            go_simp
            refine (N4.out _ _ hU (HSq.out _ hC) hW).mono ?_
            rintro e v22 ⟨rfl, hWv22, hgv22⟩
            dsimp only
            have hA := grp_grown hA hgv22 hne1
            have hC := Blk.grownOut hC hgv22 hne2
            have hU := Up.grownNew hU hgv22 lbw
            have hW : Blk v22 b 110 (wriA T4 4 0) := hWv22
            refine hK.out _ _ (.inr hA) (anyE_done (by kernel_rfl) ?_ _)
            try simp only [Act.put, List.setIfInBounds_toArray, List.set_cons_zero, List.set_cons_succ]
            clear hK
            go_wp2_with fail
            go_meet
            exact ⟨rfl, hid hU, hid hA, hid hW⟩
          · go_simp
            obtain ⟨g13, hg13⟩ : ∃ g13, v18.heap.size = g13 := ⟨_, rfl⟩
            have hb13 : Blk (v18.alloc (.cells #[.int .i64 r] 3)) g13 3 #[.int .i64 r] := Blk.new hg13 rfl
            have hn13 : g13 ≠ b := by have := hW.lt; omega
            have hb10 := hb10.alloc (.cells #[.int .i64 r] 3)
            have hA := hA.up ((Up.refl v18).alloc (.cells #[.int .i64 r] 3))
            have hW := hW.alloc (.cells #[.int .i64 r] 3)
            have hC := hC.alloc (.cells #[.int .i64 r] 3)
            have hU := hU.alloc (.cells #[.int .i64 r] 3)
            rw [hg13]
            refine hK.out _ _ (.inr hA) ?_
            clear hK
            try simp only [Act.put, List.setIfInBounds_toArray, List.set_cons_zero, List.set_cons_succ]
            generalize (v18.alloc (.cells #[.int .i64 r] 3)) = v23 at *
            refine anyE_one (i := 11) rfl (by kernel_rfl) rfl (fun K hK => ?_)
            go_simp
            refine (N2.out _ _ hU (ints_one (hb10.val (i := 0) rfl)) hW).mono ?_
            rintro e v24 ⟨rfl, hWv24, hgv24⟩
            dsimp only
            have hb13 := Blk.grownOut hb13 hgv24 hn13
            have hA := grp_grown hA hgv24 hne1
            have hC := Blk.grownOut hC hgv24 hne2
            have hU := Up.grownNew hU hgv24 lbw
            have hW : Blk v24 b 110 (wriA T2 2 0) := hWv24
            refine hK.out _ _ (.inr hA) ?_
            clear hK
            try simp only [Act.put, List.setIfInBounds_toArray, List.set_cons_zero, List.set_cons_succ]
            refine anyE_one (i := 14) rfl (by kernel_rfl) rfl (fun K hK => ?_)
            go_simp
            refine (N3.out _ _ hU (ints_one (hb13.val (i := 0) rfl)) hW).mono ?_
            rintro e v25 ⟨rfl, hWv25, hgv25⟩
            dsimp only
            have hA := grp_grown hA hgv25 hne1
            have hC := Blk.grownOut hC hgv25 hne2
            have hU := Up.grownNew hU hgv25 lbw
            have hW : Blk v25 b 110 (wriA T3 3 0) := hWv25
            refine hK.out _ _ (.inr hA) ?_
            clear hK
            try simp only [Act.put, List.setIfInBounds_toArray, List.set_cons_zero, List.set_cons_succ]
            refine anyE_one (i := 16) rfl (by kernel_rfl) rfl (fun K hK => ?_)
            go_simp
            refine (N4.out _ _ hU (HSq.out _ hC) hW).mono ?_
            rintro e v26 ⟨rfl, hWv26, hgv26⟩
            dsimp only
            have hA := grp_grown hA hgv26 hne1
            have hC := Blk.grownOut hC hgv26 hne2
            have hU := Up.grownNew hU hgv26 lbw
            have hW : Blk v26 b 110 (wriA T4 4 0) := hWv26
            refine hK.out _ _ (.inr hA) (anyE_done (by kernel_rfl) ?_ _)
            try simp only [Act.put, List.setIfInBounds_toArray, List.set_cons_zero, List.set_cons_succ]
            clear hK
            go_wp2_with fail
            go_meet
            exact ⟨rfl, hid hU, hid hA, hid hW⟩
        · go_simp
          obtain ⟨g13, hg13⟩ : ∃ g13, v17.heap.size = g13 := ⟨_, rfl⟩
          have hb13 : Blk (v17.alloc (.cells #[.int .i64 r] 3)) g13 3 #[.int .i64 r] := Blk.new hg13 rfl
          have hn13 : g13 ≠ b := by have := hW.lt; omega
          have hb7 := hb7.alloc (.cells #[.int .i64 r] 3)
          have hb10 := hb10.alloc (.cells #[.int .i64 r] 3)
          have hA := hA.up ((Up.refl v17).alloc (.cells #[.int .i64 r] 3))
          have hW := hW.alloc (.cells #[.int .i64 r] 3)
          have hC := hC.alloc (.cells #[.int .i64 r] 3)
          have hU := hU.alloc (.cells #[.int .i64 r] 3)
          rw [hg13]
          refine hK.out _ _ (.inr hA) ?_
          clear hK
          try simp only [Act.put, List.setIfInBounds_toArray, List.set_cons_zero, List.set_cons_succ]
          generalize (v17.alloc (.cells #[.int .i64 r] 3)) = v27 at *
          refine anyE_one (i := 8) rfl (by kernel_rfl) rfl (fun K hK => ?_)
          go_simp
          refine (N1.out _ _ hU (ints_three (hb7.val (i := 0) rfl) (hb7.val (i := 1) rfl) (hb7.val (i := 2) rfl)) hW).mono ?_
          rintro e v28 ⟨rfl, hWv28, hgv28⟩
          dsimp only
          have hb10 := Blk.grownOut hb10 hgv28 hn10
          have hb13 := Blk.grownOut hb13 hgv28 hn13
          have hA := grp_grown hA hgv28 hne1
          have hC := Blk.grownOut hC hgv28 hne2
          have hU := Up.grownNew hU hgv28 lbw
          have hW : Blk v28 b 110 (wriA T1 1 0) := hWv28
          refine hK.out _ _ (.inr hA) ?_
          clear hK
          try simp only [Act.put, List.setIfInBounds_toArray, List.set_cons_zero, List.set_cons_succ]
          refine anyE_one (i := 11) rfl (by kernel_rfl) rfl (fun K hK => ?_)
          go_simp
          refine (N2.out _ _ hU (ints_one (hb10.val (i := 0) rfl)) hW).mono ?_
          rintro e v29 ⟨rfl, hWv29, hgv29⟩
          dsimp only
          have hb13 := Blk.grownOut hb13 hgv29 hn13
          have hA := grp_grown hA hgv29 hne1
          have hC := Blk.grownOut hC hgv29 hne2
          have hU := Up.grownNew hU hgv29 lbw
          have hW : Blk v29 b 110 (wriA T2 2 0) := hWv29
          refine hK.out _ _ (.inr hA) ?_
          clear hK
          try simp only [Act.put, List.setIfInBounds_toArray, List.set_cons_zero, List.set_cons_succ]
          refine anyE_one (i := 14) rfl (by kernel_rfl) rfl (fun K hK => ?_)
          go_simp
          refine (N3.out _ _ hU (ints_one (hb13.val (i := 0) rfl)) hW).mono ?_
          rintro e v30 ⟨rfl, hWv30, hgv30⟩
          dsimp only
          have hA := grp_grown hA hgv30 hne1
          have hC := Blk.grownOut hC hgv30 hne2
          have hU := Up.grownNew hU hgv30 lbw
          have hW : Blk v30 b 110 (wriA T3 3 0) := hWv30
          refine hK.out _ _ (.inr hA) ?_
          clear hK
          try simp only [Act.put, List.setIfInBounds_toArray, List.set_cons_zero, List.set_cons_succ]
          refine anyE_one (i := 16) rfl (by kernel_rfl) rfl (fun K hK => ?_)
          go_simp
          refine (N4.out _ _ hU (HSq.out _ hC) hW).mono ?_
          rintro e v31 ⟨rfl, hWv31, hgv31⟩
          dsimp only
          have hA := grp_grown hA hgv31 hne1
          have hC := Blk.grownOut hC hgv31 hne2
          have hU := Up.grownNew hU hgv31 lbw
          have hW : Blk v31 b 110 (wriA T4 4 0) := hWv31
          refine hK.out _ _ (.inr hA) (anyE_done (by kernel_rfl) ?_ _)
          try simp only [Act.put, List.setIfInBounds_toArray, List.set_cons_zero, List.set_cons_succ]
          clear hK
          go_wp2_with fail
          go_meet
          exact ⟨rfl, hid hU, hid hA, hid hW⟩
      · go_simp
        obtain ⟨g13, hg13⟩ : ∃ g13, v1.heap.size = g13 := ⟨_, rfl⟩
        have hb13 : Blk (v1.alloc (.cells #[.int .i64 r] 3)) g13 3 #[.int .i64 r] := Blk.new hg13 rfl
        have hn13 : g13 ≠ b := by have := hW.lt; omega
        have hb7 := hb7.alloc (.cells #[.int .i64 r] 3)
        have hA := hA.up ((Up.refl v1).alloc (.cells #[.int .i64 r] 3))
        have hW := hW.alloc (.cells #[.int .i64 r] 3)
        have hC := hC.alloc (.cells #[.int .i64 r] 3)
        have hU := hU.alloc (.cells #[.int .i64 r] 3)
        rw [hg13]
        refine hK.out _ _ (.inr hA) ?_
        clear hK
        try simp only [Act.put, List.setIfInBounds_toArray, List.set_cons_zero, List.set_cons_succ]
        generalize (v1.alloc (.cells #[.int .i64 r] 3)) = v32 at *
        refine anyE_two 8 10 (by kernel_rfl) ⟨_, rfl, rfl, fun K hK => ?_⟩ ⟨_, rfl, rfl, fun K hK => ?_⟩
        · go_simp
          refine (N1.out _ _ hU (ints_three (hb7.val (i := 0) rfl) (hb7.val (i := 1) rfl) (hb7.val (i := 2) rfl)) hW).mono ?_
          rintro e v33 ⟨rfl, hWv33, hgv33⟩
          dsimp only
          have hb13 := Blk.grownOut hb13 hgv33 hn13
          have hA := grp_grown hA hgv33 hne1
          have hC := Blk.grownOut hC hgv33 hne2
          have hU := Up.grownNew hU hgv33 lbw
          have hW : Blk v33 b 110 (wriA T1 1 0) := hWv33
          refine hK.out _ _ (.inr hA) ?_
          clear hK
          try simp only [Act.put, List.setIfInBounds_toArray, List.set_cons_zero, List.set_cons_succ]
          refine anyE_one (i := 10) rfl (by kernel_rfl) rfl (fun K hK => ?_)
          go_simp
          obtain ⟨g10, hg10⟩ : ∃ g10, v33.heap.size = g10 := ⟨_, rfl⟩
          have hb10 : Blk (v33.alloc (.cells #[.int .i64 y] 3)) g10 3 #[.int .i64 y] := Blk.new hg10 rfl
          have hn10 : g10 ≠ b := by have := hW.lt; omega
          have hb13 := hb13.alloc (.cells #[.int .i64 y] 3)
          have hA := hA.up ((Up.refl v33).alloc (.cells #[.int .i64 y] 3))
          have hW := hW.alloc (.cells #[.int .i64 y] 3)
          have hC := hC.alloc (.cells #[.int .i64 y] 3)
          have hU := hU.alloc (.cells #[.int .i64 y] 3)
          rw [hg10]
          refine hK.out _ _ (.inr hA) ?_
          clear hK
          try simp only [Act.put, List.setIfInBounds_toArray, List.set_cons_zero, List.set_cons_succ]
          generalize (v33.alloc (.cells #[.int .i64 y] 3)) = v34 at *
          refine anyE_one (i := 11) rfl (by kernel_rfl) rfl (fun K hK => ?_)
          go_simp
          refine (N2.out _ _ hU (ints_one (hb10.val (i := 0) rfl)) hW).mono ?_
          rintro e v35 ⟨rfl, hWv35, hgv35⟩
          dsimp only
          have hb13 := Blk.grownOut hb13 hgv35 hn13
          have hA := grp_grown hA hgv35 hne1
          have hC := Blk.grownOut hC hgv35 hne2
          have hU := Up.grownNew hU hgv35 lbw
          have hW : Blk v35 b 110 (wriA T2 2 0) := hWv35
          refine hK.out _ _ (.inr hA) ?_
          clear hK
          try simp only [Act.put, List.setIfInBounds_toArray, List.set_cons_zero, List.set_cons_succ]
          refine anyE_one (i := 14) rfl (by kernel_rfl) rfl (fun K hK => ?_)
          go_simp
          refine (N3.out _ _ hU (ints_one (hb13.val (i := 0) rfl)) hW).mono ?_
          rintro e v36 ⟨rfl, hWv36, hgv36⟩
          dsimp only
          have hA := grp_grown hA hgv36 hne1
          have hC := Blk.grownOut hC hgv36 hne2
          have hU := Up.grownNew hU hgv36 lbw
          have hW : Blk v36 b 110 (wriA T3 3 0) := hWv36
          refine hK.out _ _ (.inr hA) ?_
          clear hK
          try simp only [Act.put, List.setIfInBounds_toArray, List.set_cons_zero, List.set_cons_succ]
          refine anyE_one (i := 16) rfl (by kernel_rfl) rfl (fun K hK => ?_)
          go_simp
          refine (N4.out _ _ hU (HSq.out _ hC) hW).mono ?_
          rintro e v37 ⟨rfl, hWv37, hgv37⟩
          dsimp only
          have hA := grp_grown hA hgv37 hne1
          have hC := Blk.grownOut hC hgv37 hne2
          have hU := Up.grownNew hU hgv37 lbw
          have hW : Blk v37 b 110 (wriA T4 4 0) := hWv37
          refine hK.out _ _ (.inr hA) (anyE_done (by kernel_rfl) ?_ _)
          try simp only [Act.put, List.setIfInBounds_toArray, List.set_cons_zero, List.set_cons_succ]
          clear hK
          go_wp2_with fail
          go_meet
          exact ⟨rfl, hid hU, hid hA, hid hW⟩
        · go_simp
          obtain ⟨g10, hg10⟩ : ∃ g10, v32.heap.size = g10 := ⟨_, rfl⟩
          have hb10 : Blk (v32.alloc (.cells #[.int .i64 y] 3)) g10 3 #[.int .i64 y] := Blk.new hg10 rfl
          have hn10 : g10 ≠ b := by have := hW.lt; omega
          have hb7 := hb7.alloc (.cells #[.int .i64 y] 3)
          have hb13 := hb13.alloc (.cells #[.int .i64 y] 3)
          have hA := hA.up ((Up.refl v32).alloc (.cells #[.int .i64 y] 3))
          have hW := hW.alloc (.cells #[.int .i64 y] 3)
          have hC := hC.alloc (.cells #[.int .i64 y] 3)
          have hU := hU.alloc (.cells #[.int .i64 y] 3)
          rw [hg10]
          refine hK.out _ _ (.inr hA) ?_
          clear hK
          try simp only [Act.put, List.setIfInBounds_toArray, List.set_cons_zero, List.set_cons_succ]
          generalize (v32.alloc (.cells #[.int .i64 y] 3)) = v38 at *
          refine anyE_one (i := 8) rfl (by kernel_rfl) rfl (fun K hK => ?_)
          go_simp
          refine (N1.out _ _ hU (ints_three (hb7.val (i := 0) rfl) (hb7.val (i := 1) rfl) (hb7.val (i := 2) rfl)) hW).mono ?_
          rintro e v39 ⟨rfl, hWv39, hgv39⟩
          dsimp only
          have hb10 := Blk.grownOut hb10 hgv39 hn10
          have hb13 := Blk.grownOut hb13 hgv39 hn13
          have hA := grp_grown hA hgv39 hne1
          have hC := Blk.grownOut hC hgv39 hne2
          have hU := Up.grownNew hU hgv39 lbw
          have hW : Blk v39 b 110 (wriA T1 1 0) := hWv39
          refine hK.out _ _ (.inr hA) ?_
          clear hK
          try simp only [Act.put, List.setIfInBounds_toArray, List.set_cons_zero, List.set_cons_succ]
          refine anyE_one (i := 11) rfl (by kernel_rfl) rfl (fun K hK => ?_)
          go_simp
          refine (N2.out _ _ hU (ints_one (hb10.val (i := 0) rfl)) hW).mono ?_
          rintro e v40 ⟨rfl, hWv40, hgv40⟩
          dsimp only
          have hb13 := Blk.grownOut hb13 hgv40 hn13
          have hA := grp_grown hA hgv40 hne1
          have hC := Blk.grownOut hC hgv40 hne2
          have hU := Up.grownNew hU hgv40 lbw
          have hW : Blk v40 b 110 (wriA T2 2 0) := hWv40
          refine hK.out _ _ (.inr hA) ?_
          clear hK
          try simp only [Act.put, List.setIfInBounds_toArray, List.set_cons_zero, List.set_cons_succ]
          refine anyE_one (i := 14) rfl (by kernel_rfl) rfl (fun K hK => ?_)
          go_simp
          refine (N3.out _ _ hU (ints_one (hb13.val (i := 0) rfl)) hW).mono ?_
          rintro e v41 ⟨rfl, hWv41, hgv41⟩
          dsimp only
          have hA := grp_grown hA hgv41 hne1
          have hC := Blk.grownOut hC hgv41 hne2
          have hU := Up.grownNew hU hgv41 lbw
          have hW : Blk v41 b 110 (wriA T3 3 0) := hWv41
          refine hK.out _ _ (.inr hA) ?_
          clear hK
          try simp only [Act.put, List.setIfInBounds_toArray, List.set_cons_zero, List.set_cons_succ]
          refine anyE_one (i := 16) rfl (by kernel_rfl) rfl (fun K hK => ?_)
          go_simp
          refine (N4.out _ _ hU (HSq.out _ hC) hW).mono ?_
          rintro e v42 ⟨rfl, hWv42, hgv42⟩
          dsimp only
          have hA := grp_grown hA hgv42 hne1
          have hC := Blk.grownOut hC hgv42 hne2
          have hU := Up.grownNew hU hgv42 lbw
          have hW : Blk v42 b 110 (wriA T4 4 0) := hWv42
          refine hK.out _ _ (.inr hA) (anyE_done (by kernel_rfl) ?_ _)
          try simp only [Act.put, List.setIfInBounds_toArray, List.set_cons_zero, List.set_cons_succ]
          clear hK
          go_wp2_with fail
          go_meet
          exact ⟨rfl, hid hU, hid hA, hid hW⟩
    · go_simp
      obtain ⟨g10, hg10⟩ : ∃ g10, v0.heap.size = g10 := ⟨_, rfl⟩
      have hb10 : Blk (v0.alloc (.cells #[.int .i64 y] 3)) g10 3 #[.int .i64 y] := Blk.new hg10 rfl
      have hn10 : g10 ≠ b := by have := hW.lt; omega
      have hA := hA.up ((Up.refl v0).alloc (.cells #[.int .i64 y] 3))
      have hW := hW.alloc (.cells #[.int .i64 y] 3)
      have hC := hC.alloc (.cells #[.int .i64 y] 3)
      have hU := hU.alloc (.cells #[.int .i64 y] 3)
      rw [hg10]
      refine hK.out _ _ (.inr hA) ?_
      clear hK
      try simp only [Act.put, List.setIfInBounds_toArray, List.set_cons_zero, List.set_cons_succ]
      generalize (v0.alloc (.cells #[.int .i64 y] 3)) = v43 at *
      refine anyE_two 7 13 (by kernel_rfl) ⟨_, rfl, rfl, fun K hK => ?_⟩ ⟨_, rfl, rfl, fun K hK => ?_⟩
      · go_simp
        obtain ⟨g7, hg7⟩ : ∃ g7, v43.heap.size = g7 := ⟨_, rfl⟩
        have hb7 : Blk (v43.alloc (.cells #[.int .i64 P, .int .i64 Q, .int .i64 G] 3)) g7 3 #[.int .i64 P, .int .i64 Q, .int .i64 G] := Blk.new hg7 rfl
        have hn7 : g7 ≠ b := by have := hW.lt; omega
        have hb10 := hb10.alloc (.cells #[.int .i64 P, .int .i64 Q, .int .i64 G] 3)
        have hA := hA.up ((Up.refl v43).alloc (.cells #[.int .i64 P, .int .i64 Q, .int .i64 G] 3))
        have hW := hW.alloc (.cells #[.int .i64 P, .int .i64 Q, .int .i64 G] 3)
        have hC := hC.alloc (.cells #[.int .i64 P, .int .i64 Q, .int .i64 G] 3)
        have hU := hU.alloc (.cells #[.int .i64 P, .int .i64 Q, .int .i64 G] 3)
        rw [hg7]
        refine hK.out _ _ (.inr hA) ?_
        clear hK
        try simp only [Act.put, List.setIfInBounds_toArray, List.set_cons_zero, List.set_cons_succ]
        generalize (v43.alloc (.cells #[.int .i64 P, .int .i64 Q, .int .i64 G] 3)) = v44 at *
        refine anyE_two 8 13 (by kernel_rfl) ⟨_, rfl, rfl, fun K hK => ?_⟩ ⟨_, rfl, rfl, fun K hK => ?_⟩
        · go_simp
          refine (N1.out _ _ hU (ints_three (hb7.val (i := 0) rfl) (hb7.val (i := 1) rfl) (hb7.val (i := 2) rfl)) hW).mono ?_
          rintro e v45 ⟨rfl, hWv45, hgv45⟩
          dsimp only
          have hb10 := Blk.grownOut hb10 hgv45 hn10
          have hA := grp_grown hA hgv45 hne1
          have hC := Blk.grownOut hC hgv45 hne2
          have hU := Up.grownNew hU hgv45 lbw
          have hW : Blk v45 b 110 (wriA T1 1 0) := hWv45
          refine hK.out _ _ (.inr hA) ?_
          clear hK
          try simp only [Act.put, List.setIfInBounds_toArray, List.set_cons_zero, List.set_cons_succ]
          refine anyE_two 11 13 (by kernel_rfl) ⟨_, rfl, rfl, fun K hK => ?_⟩ ⟨_, rfl, rfl, fun K hK => ?_⟩
          · go_simp
            refine (N2.out _ _ hU (ints_one (hb10.val (i := 0) rfl)) hW).mono ?_
            rintro e v46 ⟨rfl, hWv46, hgv46⟩
            dsimp only
            have hA := grp_grown hA hgv46 hne1
            have hC := Blk.grownOut hC hgv46 hne2
            have hU := Up.grownNew hU hgv46 lbw
            have hW : Blk v46 b 110 (wriA T2 2 0) := hWv46
            refine hK.out _ _ (.inr hA) ?_
            clear hK
            try simp only [Act.put, List.setIfInBounds_toArray, List.set_cons_zero, List.set_cons_succ]
            refine anyE_one (i := 13) rfl (by kernel_rfl) rfl (fun K hK => ?_)
            go_simp
            obtain ⟨g13, hg13⟩ : ∃ g13, v46.heap.size = g13 := ⟨_, rfl⟩
            have hb13 : Blk (v46.alloc (.cells #[.int .i64 r] 3)) g13 3 #[.int .i64 r] := Blk.new hg13 rfl
            have hn13 : g13 ≠ b := by have := hW.lt; omega
            have hA := hA.up ((Up.refl v46).alloc (.cells #[.int .i64 r] 3))
            have hW := hW.alloc (.cells #[.int .i64 r] 3)
            have hC := hC.alloc (.cells #[.int .i64 r] 3)
            have hU := hU.alloc (.cells #[.int .i64 r] 3)
            rw [hg13]
            refine hK.out _ _ (.inr hA) ?_
            clear hK
            try simp only [Act.put, List.setIfInBounds_toArray, List.set_cons_zero, List.set_cons_succ]
            generalize (v46.alloc (.cells #[.int .i64 r] 3)) = v47 at *
            refine anyE_one (i := 14) rfl (by kernel_rfl) rfl (fun K hK => ?_)
            go_simp
            refine (N3.out _ _ hU (ints_one (hb13.val (i := 0) rfl)) hW).mono ?_
            rintro e v48 ⟨rfl, hWv48, hgv48⟩
            dsimp only
            have hA := grp_grown hA hgv48 hne1
            have hC := Blk.grownOut hC hgv48 hne2
            have hU := Up.grownNew hU hgv48 lbw
            have hW : Blk v48 b 110 (wriA T3 3 0) := hWv48
            refine hK.out _ _ (.inr hA) ?_
            clear hK
            try simp only [Act.put, List.setIfInBounds_toArray, List.set_cons_zero, List.set_cons_succ]
            refine anyE_one (i := 16) rfl (by kernel_rfl) rfl (fun K hK => ?_)
            go_simp
            refine (N4.out _ _ hU (HSq.out _ hC) hW).mono ?_
            rintro e v49 ⟨rfl, hWv49, hgv49⟩
            dsimp only
            have hA := grp_grown hA hgv49 hne1
            have hC := Blk.grownOut hC hgv49 hne2
            have hU := Up.grownNew hU hgv49 lbw
            have hW : Blk v49 b 110 (wriA T4 4 0) := hWv49
            refine hK.out _ _ (.inr hA) (anyE_done (by kernel_rfl) ?_ _)
            try simp only [Act.put, List.setIfInBounds_toArray, List.set_cons_zero, List.set_cons_succ]
            clear hK
            go_wp2_with fail
            go_meet
            exact ⟨rfl, hid hU, hid hA, hid hW⟩
          · go_simp
            obtain ⟨g13, hg13⟩ : ∃ g13, v45.heap.size = g13 := ⟨_, rfl⟩
            have hb13 : Blk (v45.alloc (.cells #[.int .i64 r] 3)) g13 3 #[.int .i64 r] := Blk.new hg13 rfl
            have hn13 : g13 ≠ b := by have := hW.lt; omega
            have hb10 := hb10.alloc (.cells #[.int .i64 r] 3)
            have hA := hA.up ((Up.refl v45).alloc (.cells #[.int .i64 r] 3))
            have hW := hW.alloc (.cells #[.int .i64 r] 3)
            have hC := hC.alloc (.cells #[.int .i64 r] 3)
            have hU := hU.alloc (.cells #[.int .i64 r] 3)
            rw [hg13]
            refine hK.out _ _ (.inr hA) ?_
            clear hK
            try simp only [Act.put, List.setIfInBounds_toArray, List.set_cons_zero, List.set_cons_succ]
            generalize (v45.alloc (.cells #[.int .i64 r] 3)) = v50 at *
            refine anyE_one (i := 11) rfl (by kernel_rfl) rfl (fun K hK => ?_)
            go_simp
            refine (N2.out _ _ hU (ints_one (hb10.val (i := 0) rfl)) hW).mono ?_
            rintro e v51 ⟨rfl, hWv51, hgv51⟩
            dsimp only
            have hb13 := Blk.grownOut hb13 hgv51 hn13
            have hA := grp_grown hA hgv51 hne1
            have hC := Blk.grownOut hC hgv51 hne2
            have hU := Up.grownNew hU hgv51 lbw
            have hW : Blk v51 b 110 (wriA T2 2 0) := hWv51
            refine hK.out _ _ (.inr hA) ?_
            clear hK
            try simp only [Act.put, List.setIfInBounds_toArray, List.set_cons_zero, List.set_cons_succ]
            refine anyE_one (i := 14) rfl (by kernel_rfl) rfl (fun K hK => ?_)
            go_simp
            refine (N3.out _ _ hU (ints_one (hb13.val (i := 0) rfl)) hW).mono ?_
            rintro e v52 ⟨rfl, hWv52, hgv52⟩
            dsimp only
            have hA := grp_grown hA hgv52 hne1
            have hC := Blk.grownOut hC hgv52 hne2
            have hU := Up.grownNew hU hgv52 lbw
            have hW : Blk v52 b 110 (wriA T3 3 0) := hWv52
            refine hK.out _ _ (.inr hA) ?_
            clear hK
            try simp only [Act.put, List.setIfInBounds_toArray, List.set_cons_zero, List.set_cons_succ]
            refine anyE_one (i := 16) rfl (by kernel_rfl) rfl (fun K hK => ?_)
            go_simp
            refine (N4.out _ _ hU (HSq.out _ hC) hW).mono ?_
            rintro e v53 ⟨rfl, hWv53, hgv53⟩
            dsimp only
            have hA := grp_grown hA hgv53 hne1
            have hC := Blk.grownOut hC hgv53 hne2
            have hU := Up.grownNew hU hgv53 lbw
            have hW : Blk v53 b 110 (wriA T4 4 0) := hWv53
            refine hK.out _ _ (.inr hA) (anyE_done (by kernel_rfl) ?_ _)
            try simp only [Act.put, List.setIfInBounds_toArray, List.set_cons_zero, List.set_cons_succ]
            clear hK
            go_wp2_with fail
            go_meet
            exact ⟨rfl, hid hU, hid hA, hid hW⟩
        · go_simp
          obtain ⟨g13, hg13⟩ : ∃ g13, v44.heap.size = g13 := ⟨_, rfl⟩
          have hb13 : Blk (v44.alloc (.cells #[.int .i64 r] 3)) g13 3 #[.int .i64 r] := Blk.new hg13 rfl
          have hn13 : g13 ≠ b := by have := hW.lt; omega
          have hb7 := hb7.alloc (.cells #[.int .i64 r] 3)
          have hb10 := hb10.alloc (.cells #[.int .i64 r] 3)
          have hA := hA.up ((Up.refl v44).alloc (.cells #[.int .i64 r] 3))
          have hW := hW.alloc (.cells #[.int .i64 r] 3)
          have hC := hC.alloc (.cells #[.int .i64 r] 3)
          have hU := hU.alloc (.cells #[.int .i64 r] 3)
          rw [hg13]
          refine hK.out _ _ (.inr hA) ?_
          clear hK
          try simp only [Act.put, List.setIfInBounds_toArray, List.set_cons_zero, List.set_cons_succ]
          generalize (v44.alloc (.cells #[.int .i64 r] 3)) = v54 at *
          refine anyE_one (i := 8) rfl (by kernel_rfl) rfl (fun K hK => ?_)
          go_simp
          refine (N1.out _ _ hU (ints_three (hb7.val (i := 0) rfl) (hb7.val (i := 1) rfl) (hb7.val (i := 2) rfl)) hW).mono ?_
          rintro e v55 ⟨rfl, hWv55, hgv55⟩
          dsimp only
          have hb10 := Blk.grownOut hb10 hgv55 hn10
          have hb13 := Blk.grownOut hb13 hgv55 hn13
          have hA := grp_grown hA hgv55 hne1
          have hC := Blk.grownOut hC hgv55 hne2
          have hU := Up.grownNew hU hgv55 lbw
          have hW : Blk v55 b 110 (wriA T1 1 0) := hWv55
          refine hK.out _ _ (.inr hA) ?_
          clear hK
          try simp only [Act.put, List.setIfInBounds_toArray, List.set_cons_zero, List.set_cons_succ]
          refine anyE_one (i := 11) rfl (by kernel_rfl) rfl (fun K hK => ?_)
          go_simp
          refine (N2.out _ _ hU (ints_one (hb10.val (i := 0) rfl)) hW).mono ?_
          rintro e v56 ⟨rfl, hWv56, hgv56⟩
          dsimp only
          have hb13 := Blk.grownOut hb13 hgv56 hn13
          have hA := grp_grown hA hgv56 hne1
          have hC := Blk.grownOut hC hgv56 hne2
          have hU := Up.grownNew hU hgv56 lbw
          have hW : Blk v56 b 110 (wriA T2 2 0) := hWv56
          refine hK.out _ _ (.inr hA) ?_
          clear hK
          try simp only [Act.put, List.setIfInBounds_toArray, List.set_cons_zero, List.set_cons_succ]
          refine anyE_one (i := 14) rfl (by kernel_rfl) rfl (fun K hK => ?_)
          go_simp
          refine (N3.out _ _ hU (ints_one (hb13.val (i := 0) rfl)) hW).mono ?_
          rintro e v57 ⟨rfl, hWv57, hgv57⟩
          dsimp only
          have hA := grp_grown hA hgv57 hne1
          have hC := Blk.grownOut hC hgv57 hne2
          have hU := Up.grownNew hU hgv57 lbw
          have hW : Blk v57 b 110 (wriA T3 3 0) := hWv57
          refine hK.out _ _ (.inr hA) ?_
          clear hK
          try simp only [Act.put, List.setIfInBounds_toArray, List.set_cons_zero, List.set_cons_succ]
          refine anyE_one (i := 16) rfl (by kernel_rfl) rfl (fun K hK => ?_)
          go_simp
          refine (N4.out _ _ hU (HSq.out _ hC) hW).mono ?_
          rintro e v58 ⟨rfl, hWv58, hgv58⟩
          dsimp only
          have hA := grp_grown hA hgv58 hne1
          have hC := Blk.grownOut hC hgv58 hne2
          have hU := Up.grownNew hU hgv58 lbw
          have hW : Blk v58 b 110 (wriA T4 4 0) := hWv58
          refine hK.out _ _ (.inr hA) (anyE_done (by kernel_rfl) ?_ _)
          try simp only [Act.put, List.setIfInBounds_toArray, List.set_cons_zero, List.set_cons_succ]
          clear hK
          go_wp2_with fail
          go_meet
          exact ⟨rfl, hid hU, hid hA, hid hW⟩
      · go_simp
        obtain ⟨g13, hg13⟩ : ∃ g13, v43.heap.size = g13 := ⟨_, rfl⟩
        have hb13 : Blk (v43.alloc (.cells #[.int .i64 r] 3)) g13 3 #[.int .i64 r] := Blk.new hg13 rfl
        have hn13 : g13 ≠ b := by have := hW.lt; omega
        have hb10 := hb10.alloc (.cells #[.int .i64 r] 3)
        have hA := hA.up ((Up.refl v43).alloc (.cells #[.int .i64 r] 3))
        have hW := hW.alloc (.cells #[.int .i64 r] 3)
        have hC := hC.alloc (.cells #[.int .i64 r] 3)
        have hU := hU.alloc (.cells #[.int .i64 r] 3)
        rw [hg13]
        refine hK.out _ _ (.inr hA) ?_
        clear hK
        try simp only [Act.put, List.setIfInBounds_toArray, List.set_cons_zero, List.set_cons_succ]
        generalize (v43.alloc (.cells #[.int .i64 r] 3)) = v59 at *
        refine anyE_one (i := 7) rfl (by kernel_rfl) rfl (fun K hK => ?_)
        go_simp
        obtain ⟨g7, hg7⟩ : ∃ g7, v59.heap.size = g7 := ⟨_, rfl⟩
        have hb7 : Blk (v59.alloc (.cells #[.int .i64 P, .int .i64 Q, .int .i64 G] 3)) g7 3 #[.int .i64 P, .int .i64 Q, .int .i64 G] := Blk.new hg7 rfl
        have hn7 : g7 ≠ b := by have := hW.lt; omega
        have hb10 := hb10.alloc (.cells #[.int .i64 P, .int .i64 Q, .int .i64 G] 3)
        have hb13 := hb13.alloc (.cells #[.int .i64 P, .int .i64 Q, .int .i64 G] 3)
        have hA := hA.up ((Up.refl v59).alloc (.cells #[.int .i64 P, .int .i64 Q, .int .i64 G] 3))
        have hW := hW.alloc (.cells #[.int .i64 P, .int .i64 Q, .int .i64 G] 3)
        have hC := hC.alloc (.cells #[.int .i64 P, .int .i64 Q, .int .i64 G] 3)
        have hU := hU.alloc (.cells #[.int .i64 P, .int .i64 Q, .int .i64 G] 3)
        rw [hg7]
        refine hK.out _ _ (.inr hA) ?_
        clear hK
        try simp only [Act.put, List.setIfInBounds_toArray, List.set_cons_zero, List.set_cons_succ]
        generalize (v59.alloc (.cells #[.int .i64 P, .int .i64 Q, .int .i64 G] 3)) = v60 at *
        refine anyE_one (i := 8) rfl (by kernel_rfl) rfl (fun K hK => ?_)
        go_simp
        refine (N1.out _ _ hU (ints_three (hb7.val (i := 0) rfl) (hb7.val (i := 1) rfl) (hb7.val (i := 2) rfl)) hW).mono ?_
        rintro e v61 ⟨rfl, hWv61, hgv61⟩
        dsimp only
        have hb10 := Blk.grownOut hb10 hgv61 hn10
        have hb13 := Blk.grownOut hb13 hgv61 hn13
        have hA := grp_grown hA hgv61 hne1
        have hC := Blk.grownOut hC hgv61 hne2
        have hU := Up.grownNew hU hgv61 lbw
        have hW : Blk v61 b 110 (wriA T1 1 0) := hWv61
        refine hK.out _ _ (.inr hA) ?_
        clear hK
        try simp only [Act.put, List.setIfInBounds_toArray, List.set_cons_zero, List.set_cons_succ]
        refine anyE_one (i := 11) rfl (by kernel_rfl) rfl (fun K hK => ?_)
        go_simp
        refine (N2.out _ _ hU (ints_one (hb10.val (i := 0) rfl)) hW).mono ?_
        rintro e v62 ⟨rfl, hWv62, hgv62⟩
        dsimp only
        have hb13 := Blk.grownOut hb13 hgv62 hn13
        have hA := grp_grown hA hgv62 hne1
        have hC := Blk.grownOut hC hgv62 hne2
        have hU := Up.grownNew hU hgv62 lbw
        have hW : Blk v62 b 110 (wriA T2 2 0) := hWv62
        refine hK.out _ _ (.inr hA) ?_
        clear hK
        try simp only [Act.put, List.setIfInBounds_toArray, List.set_cons_zero, List.set_cons_succ]
        refine anyE_one (i := 14) rfl (by kernel_rfl) rfl (fun K hK => ?_)
        go_simp
        refine (N3.out _ _ hU (ints_one (hb13.val (i := 0) rfl)) hW).mono ?_
        rintro e v63 ⟨rfl, hWv63, hgv63⟩
        dsimp only
        have hA := grp_grown hA hgv63 hne1
        have hC := Blk.grownOut hC hgv63 hne2
        have hU := Up.grownNew hU hgv63 lbw
        have hW : Blk v63 b 110 (wriA T3 3 0) := hWv63
        refine hK.out _ _ (.inr hA) ?_
        clear hK
        try simp only [Act.put, List.setIfInBounds_toArray, List.set_cons_zero, List.set_cons_succ]
        refine anyE_one (i := 16) rfl (by kernel_rfl) rfl (fun K hK => ?_)
        go_simp
        refine (N4.out _ _ hU (HSq.out _ hC) hW).mono ?_
        rintro e v64 ⟨rfl, hWv64, hgv64⟩
        dsimp only
        have hA := grp_grown hA hgv64 hne1
        have hC := Blk.grownOut hC hgv64 hne2
        have hU := Up.grownNew hU hgv64 lbw
        have hW : Blk v64 b 110 (wriA T4 4 0) := hWv64
        refine hK.out _ _ (.inr hA) (anyE_done (by kernel_rfl) ?_ _)
        try simp only [Act.put, List.setIfInBounds_toArray, List.set_cons_zero, List.set_cons_succ]
        clear hK
        go_wp2_with fail
        go_meet
        exact ⟨rfl, hid hU, hid hA, hid hW⟩
    · go_simp
      obtain ⟨g13, hg13⟩ : ∃ g13, v0.heap.size = g13 := ⟨_, rfl⟩
      have hb13 : Blk (v0.alloc (.cells #[.int .i64 r] 3)) g13 3 #[.int .i64 r] := Blk.new hg13 rfl
      have hn13 : g13 ≠ b := by have := hW.lt; omega
      have hA := hA.up ((Up.refl v0).alloc (.cells #[.int .i64 r] 3))
      have hW := hW.alloc (.cells #[.int .i64 r] 3)
      have hC := hC.alloc (.cells #[.int .i64 r] 3)
      have hU := hU.alloc (.cells #[.int .i64 r] 3)
      rw [hg13]
      refine hK.out _ _ (.inr hA) ?_
      clear hK
      try simp only [Act.put, List.setIfInBounds_toArray, List.set_cons_zero, List.set_cons_succ]
      generalize (v0.alloc (.cells #[.int .i64 r] 3)) = v65 at *
      refine anyE_two 7 10 (by kernel_rfl) ⟨_, rfl, rfl, fun K hK => ?_⟩ ⟨_, rfl, rfl, fun K hK => ?_⟩
      · go_simp
        obtain ⟨g7, hg7⟩ : ∃ g7, v65.heap.size = g7 := ⟨_, rfl⟩
        have hb7 : Blk (v65.alloc (.cells #[.int .i64 P, .int .i64 Q, .int .i64 G] 3)) g7 3 #[.int .i64 P, .int .i64 Q, .int .i64 G] := Blk.new hg7 rfl
        have hn7 : g7 ≠ b := by have := hW.lt; omega
        have hb13 := hb13.alloc (.cells #[.int .i64 P, .int .i64 Q, .int .i64 G] 3)
        have hA := hA.up ((Up.refl v65).alloc (.cells #[.int .i64 P, .int .i64 Q, .int .i64 G] 3))
        have hW := hW.alloc (.cells #[.int .i64 P, .int .i64 Q, .int .i64 G] 3)
        have hC := hC.alloc (.cells #[.int .i64 P, .int .i64 Q, .int .i64 G] 3)
        have hU := hU.alloc (.cells #[.int .i64 P, .int .i64 Q, .int .i64 G] 3)
        rw [hg7]
        refine hK.out _ _ (.inr hA) ?_
        clear hK
        try simp only [Act.put, List.setIfInBounds_toArray, List.set_cons_zero, List.set_cons_succ]
        generalize (v65.alloc (.cells #[.int .i64 P, .int .i64 Q, .int .i64 G] 3)) = v66 at *
        refine anyE_two 8 10 (by kernel_rfl) ⟨_, rfl, rfl, fun K hK => ?_⟩ ⟨_, rfl, rfl, fun K hK => ?_⟩
        · go_simp
          refine (N1.out _ _ hU (ints_three (hb7.val (i := 0) rfl) (hb7.val (i := 1) rfl) (hb7.val (i := 2) rfl)) hW).mono ?_
          rintro e v67 ⟨rfl, hWv67, hgv67⟩
          dsimp only
          have hb13 := Blk.grownOut hb13 hgv67 hn13
          have hA := grp_grown hA hgv67 hne1
          have hC := Blk.grownOut hC hgv67 hne2
          have hU := Up.grownNew hU hgv67 lbw
          have hW : Blk v67 b 110 (wriA T1 1 0) := hWv67
          refine hK.out _ _ (.inr hA) ?_
          clear hK
          try simp only [Act.put, List.setIfInBounds_toArray, List.set_cons_zero, List.set_cons_succ]
          refine anyE_one (i := 10) rfl (by kernel_rfl) rfl (fun K hK => ?_)
          go_simp
          obtain ⟨g10, hg10⟩ : ∃ g10, v67.heap.size = g10 := ⟨_, rfl⟩
          have hb10 : Blk (v67.alloc (.cells #[.int .i64 y] 3)) g10 3 #[.int .i64 y] := Blk.new hg10 rfl
          have hn10 : g10 ≠ b := by have := hW.lt; omega
          have hb13 := hb13.alloc (.cells #[.int .i64 y] 3)
          have hA := hA.up ((Up.refl v67).alloc (.cells #[.int .i64 y] 3))
          have hW := hW.alloc (.cells #[.int .i64 y] 3)
          have hC := hC.alloc (.cells #[.int .i64 y] 3)
          have hU := hU.alloc (.cells #[.int .i64 y] 3)
          rw [hg10]
          refine hK.out _ _ (.inr hA) ?_
          clear hK
          try simp only [Act.put, List.setIfInBounds_toArray, List.set_cons_zero, List.set_cons_succ]
          generalize (v67.alloc (.cells #[.int .i64 y] 3)) = v68 at *
          refine anyE_one (i := 11) rfl (by kernel_rfl) rfl (fun K hK => ?_)
          go_simp
          refine (N2.out _ _ hU (ints_one (hb10.val (i := 0) rfl)) hW).mono ?_
          rintro e v69 ⟨rfl, hWv69, hgv69⟩
          dsimp only
          have hb13 := Blk.grownOut hb13 hgv69 hn13
          have hA := grp_grown hA hgv69 hne1
          have hC := Blk.grownOut hC hgv69 hne2
          have hU := Up.grownNew hU hgv69 lbw
          have hW : Blk v69 b 110 (wriA T2 2 0) := hWv69
          refine hK.out _ _ (.inr hA) ?_
          clear hK
          try simp only [Act.put, List.setIfInBounds_toArray, List.set_cons_zero, List.set_cons_succ]
          refine anyE_one (i := 14) rfl (by kernel_rfl) rfl (fun K hK => ?_)
          go_simp
          refine (N3.out _ _ hU (ints_one (hb13.val (i := 0) rfl)) hW).mono ?_
          rintro e v70 ⟨rfl, hWv70, hgv70⟩
          dsimp only
          have hA := grp_grown hA hgv70 hne1
          have hC := Blk.grownOut hC hgv70 hne2
          have hU := Up.grownNew hU hgv70 lbw
          have hW : Blk v70 b 110 (wriA T3 3 0) := hWv70
          refine hK.out _ _ (.inr hA) ?_
          clear hK
          try simp only [Act.put, List.setIfInBounds_toArray, List.set_cons_zero, List.set_cons_succ]
          refine anyE_one (i := 16) rfl (by kernel_rfl) rfl (fun K hK => ?_)
          go_simp
          refine (N4.out _ _ hU (HSq.out _ hC) hW).mono ?_
          rintro e v71 ⟨rfl, hWv71, hgv71⟩
          dsimp only
          have hA := grp_grown hA hgv71 hne1
          have hC := Blk.grownOut hC hgv71 hne2
          have hU := Up.grownNew hU hgv71 lbw
          have hW : Blk v71 b 110 (wriA T4 4 0) := hWv71
          refine hK.out _ _ (.inr hA) (anyE_done (by kernel_rfl) ?_ _)
          try simp only [Act.put, List.setIfInBounds_toArray, List.set_cons_zero, List.set_cons_succ]
          clear hK
          go_wp2_with fail
          go_meet
          exact ⟨rfl, hid hU, hid hA, hid hW⟩
        · go_simp
          obtain ⟨g10, hg10⟩ : ∃ g10, v66.heap.size = g10 := ⟨_, rfl⟩
          have hb10 : Blk (v66.alloc (.cells #[.int .i64 y] 3)) g10 3 #[.int .i64 y] := Blk.new hg10 rfl
          have hn10 : g10 ≠ b := by have := hW.lt; omega
          have hb7 := hb7.alloc (.cells #[.int .i64 y] 3)
          have hb13 := hb13.alloc (.cells #[.int .i64 y] 3)
          have hA := hA.up ((Up.refl v66).alloc (.cells #[.int .i64 y] 3))
          have hW := hW.alloc (.cells #[.int .i64 y] 3)
          have hC := hC.alloc (.cells #[.int .i64 y] 3)
          have hU := hU.alloc (.cells #[.int .i64 y] 3)
          rw [hg10]
          refine hK.out _ _ (.inr hA) ?_
          clear hK
          try simp only [Act.put, List.setIfInBounds_toArray, List.set_cons_zero, List.set_cons_succ]
          generalize (v66.alloc (.cells #[.int .i64 y] 3)) = v72 at *
          refine anyE_one (i := 8) rfl (by kernel_rfl) rfl (fun K hK => ?_)
          go_simp
          refine (N1.out _ _ hU (ints_three (hb7.val (i := 0) rfl) (hb7.val (i := 1) rfl) (hb7.val (i := 2) rfl)) hW).mono ?_
          rintro e v73 ⟨rfl, hWv73, hgv73⟩
          dsimp only
          have hb10 := Blk.grownOut hb10 hgv73 hn10
          have hb13 := Blk.grownOut hb13 hgv73 hn13
          have hA := grp_grown hA hgv73 hne1
          have hC := Blk.grownOut hC hgv73 hne2
          have hU := Up.grownNew hU hgv73 lbw
          have hW : Blk v73 b 110 (wriA T1 1 0) := hWv73
          refine hK.out _ _ (.inr hA) ?_
          clear hK
          try simp only [Act.put, List.setIfInBounds_toArray, List.set_cons_zero, List.set_cons_succ]
          refine anyE_one (i := 11) rfl (by kernel_rfl) rfl (fun K hK => ?_)
          go_simp
          refine (N2.out _ _ hU (ints_one (hb10.val (i := 0) rfl)) hW).mono ?_
          rintro e v74 ⟨rfl, hWv74, hgv74⟩
          dsimp only
          have hb13 := Blk.grownOut hb13 hgv74 hn13
          have hA := grp_grown hA hgv74 hne1
          have hC := Blk.grownOut hC hgv74 hne2
          have hU := Up.grownNew hU hgv74 lbw
          have hW : Blk v74 b 110 (wriA T2 2 0) := hWv74
          refine hK.out _ _ (.inr hA) ?_
          clear hK
          try simp only [Act.put, List.setIfInBounds_toArray, List.set_cons_zero, List.set_cons_succ]
          refine anyE_one (i := 14) rfl (by kernel_rfl) rfl (fun K hK => ?_)
          go_simp
          refine (N3.out _ _ hU (ints_one (hb13.val (i := 0) rfl)) hW).mono ?_
          rintro e v75 ⟨rfl, hWv75, hgv75⟩
          dsimp only
          have hA := grp_grown hA hgv75 hne1
          have hC := Blk.grownOut hC hgv75 hne2
          have hU := Up.grownNew hU hgv75 lbw
          have hW : Blk v75 b 110 (wriA T3 3 0) := hWv75
          refine hK.out _ _ (.inr hA) ?_
          clear hK
          try simp only [Act.put, List.setIfInBounds_toArray, List.set_cons_zero, List.set_cons_succ]
          refine anyE_one (i := 16) rfl (by kernel_rfl) rfl (fun K hK => ?_)
          go_simp
          refine (N4.out _ _ hU (HSq.out _ hC) hW).mono ?_
          rintro e v76 ⟨rfl, hWv76, hgv76⟩
          dsimp only
          have hA := grp_grown hA hgv76 hne1
          have hC := Blk.grownOut hC hgv76 hne2
          have hU := Up.grownNew hU hgv76 lbw
          have hW : Blk v76 b 110 (wriA T4 4 0) := hWv76
          refine hK.out _ _ (.inr hA) (anyE_done (by kernel_rfl) ?_ _)
          try simp only [Act.put, List.setIfInBounds_toArray, List.set_cons_zero, List.set_cons_succ]
          clear hK
          go_wp2_with fail
          go_meet
          exact ⟨rfl, hid hU, hid hA, hid hW⟩
      · go_simp
        obtain ⟨g10, hg10⟩ : ∃ g10, v65.heap.size = g10 := ⟨_, rfl⟩
        have hb10 : Blk (v65.alloc (.cells #[.int .i64 y] 3)) g10 3 #[.int .i64 y] := Blk.new hg10 rfl
        have hn10 : g10 ≠ b := by have := hW.lt; omega
        have hb13 := hb13.alloc (.cells #[.int .i64 y] 3)
        have hA := hA.up ((Up.refl v65).alloc (.cells #[.int .i64 y] 3))
        have hW := hW.alloc (.cells #[.int .i64 y] 3)
        have hC := hC.alloc (.cells #[.int .i64 y] 3)
        have hU := hU.alloc (.cells #[.int .i64 y] 3)
        rw [hg10]
        refine hK.out _ _ (.inr hA) ?_
        clear hK
        try simp only [Act.put, List.setIfInBounds_toArray, List.set_cons_zero, List.set_cons_succ]
        generalize (v65.alloc (.cells #[.int .i64 y] 3)) = v77 at *
        refine anyE_one (i := 7) rfl (by kernel_rfl) rfl (fun K hK => ?_)
        go_simp
        obtain ⟨g7, hg7⟩ : ∃ g7, v77.heap.size = g7 := ⟨_, rfl⟩
        have hb7 : Blk (v77.alloc (.cells #[.int .i64 P, .int .i64 Q, .int .i64 G] 3)) g7 3 #[.int .i64 P, .int .i64 Q, .int .i64 G] := Blk.new hg7 rfl
        have hn7 : g7 ≠ b := by have := hW.lt; omega
        have hb10 := hb10.alloc (.cells #[.int .i64 P, .int .i64 Q, .int .i64 G] 3)
        have hb13 := hb13.alloc (.cells #[.int .i64 P, .int .i64 Q, .int .i64 G] 3)
        have hA := hA.up ((Up.refl v77).alloc (.cells #[.int .i64 P, .int .i64 Q, .int .i64 G] 3))
        have hW := hW.alloc (.cells #[.int .i64 P, .int .i64 Q, .int .i64 G] 3)
        have hC := hC.alloc (.cells #[.int .i64 P, .int .i64 Q, .int .i64 G] 3)
        have hU := hU.alloc (.cells #[.int .i64 P, .int .i64 Q, .int .i64 G] 3)
        rw [hg7]
        refine hK.out _ _ (.inr hA) ?_
        clear hK
        try simp only [Act.put, List.setIfInBounds_toArray, List.set_cons_zero, List.set_cons_succ]
        generalize (v77.alloc (.cells #[.int .i64 P, .int .i64 Q, .int .i64 G] 3)) = v78 at *
        refine anyE_one (i := 8) rfl (by kernel_rfl) rfl (fun K hK => ?_)
        go_simp
        refine (N1.out _ _ hU (ints_three (hb7.val (i := 0) rfl) (hb7.val (i := 1) rfl) (hb7.val (i := 2) rfl)) hW).mono ?_
        rintro e v79 ⟨rfl, hWv79, hgv79⟩
        dsimp only
        have hb10 := Blk.grownOut hb10 hgv79 hn10
        have hb13 := Blk.grownOut hb13 hgv79 hn13
        have hA := grp_grown hA hgv79 hne1
        have hC := Blk.grownOut hC hgv79 hne2
        have hU := Up.grownNew hU hgv79 lbw
        have hW : Blk v79 b 110 (wriA T1 1 0) := hWv79
        refine hK.out _ _ (.inr hA) ?_
        clear hK
        try simp only [Act.put, List.setIfInBounds_toArray, List.set_cons_zero, List.set_cons_succ]
        refine anyE_one (i := 11) rfl (by kernel_rfl) rfl (fun K hK => ?_)
        go_simp
        refine (N2.out _ _ hU (ints_one (hb10.val (i := 0) rfl)) hW).mono ?_
        rintro e v80 ⟨rfl, hWv80, hgv80⟩
        dsimp only
        have hb13 := Blk.grownOut hb13 hgv80 hn13
        have hA := grp_grown hA hgv80 hne1
        have hC := Blk.grownOut hC hgv80 hne2
        have hU := Up.grownNew hU hgv80 lbw
        have hW : Blk v80 b 110 (wriA T2 2 0) := hWv80
        refine hK.out _ _ (.inr hA) ?_
        clear hK
        try simp only [Act.put, List.setIfInBounds_toArray, List.set_cons_zero, List.set_cons_succ]
        refine anyE_one (i := 14) rfl (by kernel_rfl) rfl (fun K hK => ?_)
        go_simp
        refine (N3.out _ _ hU (ints_one (hb13.val (i := 0) rfl)) hW).mono ?_
        rintro e v81 ⟨rfl, hWv81, hgv81⟩
        dsimp only
        have hA := grp_grown hA hgv81 hne1
        have hC := Blk.grownOut hC hgv81 hne2
        have hU := Up.grownNew hU hgv81 lbw
        have hW : Blk v81 b 110 (wriA T3 3 0) := hWv81
        refine hK.out _ _ (.inr hA) ?_
        clear hK
        try simp only [Act.put, List.setIfInBounds_toArray, List.set_cons_zero, List.set_cons_succ]
        refine anyE_one (i := 16) rfl (by kernel_rfl) rfl (fun K hK => ?_)
        go_simp
        refine (N4.out _ _ hU (HSq.out _ hC) hW).mono ?_
        rintro e v82 ⟨rfl, hWv82, hgv82⟩
        dsimp only
        have hA := grp_grown hA hgv82 hne1
        have hC := Blk.grownOut hC hgv82 hne2
        have hU := Up.grownNew hU hgv82 lbw
        have hW : Blk v82 b 110 (wriA T4 4 0) := hWv82
        refine hK.out _ _ (.inr hA) (anyE_done (by kernel_rfl) ?_ _)
        try simp only [Act.put, List.setIfInBounds_toArray, List.set_cons_zero, List.set_cons_succ]
        clear hK
        go_wp2_with fail
        go_meet
        exact ⟨rfl, hid hU, hid hA, hid hW⟩
  case rest =>
    obtain ⟨rfl, HU5, HA5, HW6⟩ := hcut
    have q33 := HW6.out.val (wriA_err T4 4 0)
    have hsd : (Tryd.prog.info? 108).map (·.size) = some (drwA T4 4).toList.length := by rw [Array.length_toList, drwA_size]; kernel_rfl
    clear HW5 HA4 HC4 HU4 N1 N2 N3 N4
    go_wp2_with fail
    refine region_E (fun w' => GrpAt w' o P Q G ∧ Blk w' b 110 (wriA T4 4 0)) 15 (by kernel_rfl) ⟨HA5.out.up (Up.refl _).drew, Blk.up HW6.out (Up.refl _).drew⟩ fun hS => ?_
    have hU := HU5.out.drew
    generalize World.drew _ = v0 at *
    refine anyE_takeA (i := 0) (v := ?_) 68 rfl rfl (by kernel_rfl) (by decide) (fun _ _ _ h => h) (by kernel_rfl) (by kernel_rfl) (.inl ⟨by rfl, fun u hu => ?_⟩) hS ?_
    rotate_left
    · (obtain ⟨⟨u0, u1, u2⟩, u3⟩ := hu; go_simp; first | done | with_reducible rfl)
    simp only [Act.put, List.setIfInBounds_toArray, List.set_cons_zero, List.set_cons_succ]
    refine anyE_takeA (i := 1) (v := ?_) 69 rfl rfl (by kernel_rfl) (by decide) (fun _ _ _ h => h) (by kernel_rfl) (by kernel_rfl) (.inl ⟨by rfl, fun u hu => ?_⟩) hS ?_
    rotate_left
    · (obtain ⟨⟨u0, u1, u2⟩, u3⟩ := hu; go_simp; first | done | with_reducible rfl)
    simp only [Act.put, List.setIfInBounds_toArray, List.set_cons_zero, List.set_cons_succ]
    refine anyE_takeA (i := 2) (v := ?_) 70 rfl rfl (by kernel_rfl) (by decide) (fun _ _ _ h => h) (by kernel_rfl) (by kernel_rfl) (.inl ⟨by rfl, fun u hu => ?_⟩) hS ?_
    rotate_left
    · (obtain ⟨⟨u0, u1, u2⟩, u3⟩ := hu; go_simp; first | done | with_reducible rfl)
    simp only [Act.put, List.setIfInBounds_toArray, List.set_cons_zero, List.set_cons_succ]
    refine anyE_takeA (i := 3) (v := .agg (drwA T4 4).toList.toArray) 71 rfl rfl (by kernel_rfl) (by decide) (fun _ _ _ h => h) (by kernel_rfl) (by kernel_rfl) (yieldsIf_load_mid (by rfl) 108 _ rfl b 0 rfl (drwA T4 4).toList _ (fun u hu => wri_range hu.2) Tryd.underlying108 rfl hsd) hS ?_
    rw [Array.toArray_toList]
    simp only [Act.put, List.setIfInBounds_toArray, List.set_cons_zero, List.set_cons_succ]
    refine anyE_takeA (i := 4) (v := ?_) 72 rfl rfl (by kernel_rfl) (by decide) (fun _ _ _ h => h) (by kernel_rfl) (by kernel_rfl) (.inl ⟨by rfl, fun u hu => ?_⟩) hS ?_
    rotate_left
    · (obtain ⟨⟨u0, u1, u2⟩, u3⟩ := hu; go_simp; first | done | with_reducible rfl)
    simp only [Act.put, List.setIfInBounds_toArray, List.set_cons_zero, List.set_cons_succ]
    refine anyE_takeA (i := 5) (v := ?_) 73 rfl rfl (by kernel_rfl) (by decide) (fun _ _ _ h => h) (by kernel_rfl) (by kernel_rfl) (.inl ⟨by rfl, fun u hu => ?_⟩) hS ?_
    rotate_left
    · (obtain ⟨⟨u0, u1, u2⟩, u3⟩ := hu; go_simp; first | done | with_reducible rfl)
    simp only [Act.put, List.setIfInBounds_toArray, List.set_cons_zero, List.set_cons_succ]
    refine anyE_two 6 11 (by kernel_rfl) ⟨_, rfl, rfl, fun K hK => ?_⟩ ⟨_, rfl, rfl, fun K hK => ?_⟩
    · go_simp
      unfold drw at M5
      refine (M5.out _ hU).mono ?_
      rintro e v1 ⟨⟨TT, rfl, hT1, hT2⟩, hUc⟩
      dsimp only
      have hS : GrpAt v1 o P Q G ∧ Blk v1 b 110 (wriA T4 4 0) := ⟨hS.1.up hUc, hS.2.up hUc⟩
      have hU := hU.trans hUc
      refine hK.out _ _ (.inr hS) ?_
      clear hK hUc
      try simp only [Act.put, List.setIfInBounds_toArray, List.set_cons_zero, List.set_cons_succ]
      refine anyE_takeA (i := 7) (v := ?_) 67 rfl rfl (by kernel_rfl) (by decide) (fun _ _ _ h => h) (by kernel_rfl) (by kernel_rfl) (.inl ⟨by rfl, fun u hu => ?_⟩) hS ?_
      rotate_left
      · (obtain ⟨⟨u0, u1, u2⟩, u3⟩ := hu; go_simp; first | done | with_reducible rfl)
      simp only [Act.put, List.setIfInBounds_toArray, List.set_cons_zero, List.set_cons_succ]
      refine anyE_takeA (i := 8) (v := ?_) 75 rfl rfl (by kernel_rfl) (by decide) (fun _ _ _ h => h) (by kernel_rfl) (by kernel_rfl) (.inl ⟨by rfl, fun u hu => ?_⟩) hS ?_
      rotate_left
      · (obtain ⟨⟨u0, u1, u2⟩, u3⟩ := hu; go_simp; first | done | with_reducible rfl)
      simp only [Act.put, List.setIfInBounds_toArray, List.set_cons_zero, List.set_cons_succ]
      refine anyE_takeA (i := 9) (v := ?_) 76 rfl rfl (by kernel_rfl) (by decide) (fun _ _ _ h => h) (by kernel_rfl) (by kernel_rfl) (.inl ⟨by rfl, fun u hu => ?_⟩) hS ?_
      rotate_left
      · (obtain ⟨⟨u0, u1, u2⟩, u3⟩ := hu; go_simp; first | done | with_reducible rfl)
      simp only [Act.put, List.setIfInBounds_toArray, List.set_cons_zero, List.set_cons_succ]
      refine anyE_takeA (i := 10) (v := ?_) 77 rfl rfl (by kernel_rfl) (by decide) (fun _ _ _ h => h) (by kernel_rfl) (by kernel_rfl) (.inl ⟨by rfl, fun u hu => ?_⟩) hS ?_
      rotate_left
      · (obtain ⟨⟨u0, u1, u2⟩, u3⟩ := hu; go_simp; first | done | with_reducible rfl)
      simp only [Act.put, List.setIfInBounds_toArray, List.set_cons_zero, List.set_cons_succ]
      refine anyE_one (i := 11) rfl (by kernel_rfl) rfl (fun K hK => ?_)
      go_simp
      obtain ⟨gz, hgz⟩ : ∃ gz, v1.heap.size = gz := ⟨_, rfl⟩
      generalize hWz : World.alloc v1 _ = v2
      have hZ : Blk v2 gz 108 (drwA zeroH 0) := by rw [← hWz]; exact Blk.new hgz zero33
      have hUz : Up v1 v2 := by rw [← hWz]; exact (Up.refl _).alloc _
      have hgu : w.heap.size ≤ gz := by have := hU.size; omega
      have hgo : o ≠ gz := by have := cell_lt hS.1.1; omega
      have hgb : b ≠ gz := by have := hS.2.lt; omega
      try rw [hgz]
      have hS : GrpAt v2 o P Q G ∧ Blk v2 b 110 (wriA T4 4 0) := ⟨hS.1.up hUz, hS.2.up hUz⟩
      have hU := hU.trans hUz
      refine hK.out _ _ (.inr hS) ?_
      clear hK hWz hUz hgz
      try simp only [Act.put, List.setIfInBounds_toArray, List.set_cons_zero, List.set_cons_succ]
      refine anyE_one (i := 12) rfl (by kernel_rfl) rfl (fun K hK => ?_)
      refine op_store_row 108 _ _ rfl rfl gz TT rfl rfl 108 (drwA zeroH 0) hZ (by rw [hT1]; kernel_rfl) (by rw [drwA_size, hT1]) hT2 ?_
      have hS : GrpAt (v2.setRow gz TT) o P Q G ∧ Blk (v2.setRow gz TT) b 110 (wriA T4 4 0) := ⟨grp_row hS.1 hgo, Blk.rowApart hS.2 hgb _⟩
      have hU := hU.setRow hgu TT
      refine hK.out _ _ (.inr hS) ?_
      clear hK
      try simp only [Act.put, List.setIfInBounds_toArray, List.set_cons_zero, List.set_cons_succ]
      refine anyE_one (i := 13) rfl (by kernel_rfl) rfl (fun K hK => ?_)
      go_simp
      refine hK.out _ _ (.inr hS) ?_
      clear hK
      try simp only [Act.put, List.setIfInBounds_toArray, List.set_cons_zero, List.set_cons_succ]
      refine anyE_one (i := 14) rfl (by kernel_rfl) rfl (fun K hK => ?_)
      go_simp
      refine hK.out _ _ (.inr hS) (anyE_done (by kernel_rfl) ?_ _)
      clear hK
      go_wp2
      go_ret2
      exact ⟨rfl, hU⟩
    · go_simp
      obtain ⟨gz, hgz⟩ : ∃ gz, v0.heap.size = gz := ⟨_, rfl⟩
      generalize hWz : World.alloc v0 _ = v1
      have hZ : Blk v1 gz 108 (drwA zeroH 0) := by rw [← hWz]; exact Blk.new hgz zero33
      have hUz : Up v0 v1 := by rw [← hWz]; exact (Up.refl _).alloc _
      have hgu : w.heap.size ≤ gz := by have := hU.size; omega
      have hgo : o ≠ gz := by have := cell_lt hS.1.1; omega
      have hgb : b ≠ gz := by have := hS.2.lt; omega
      try rw [hgz]
      have hS : GrpAt v1 o P Q G ∧ Blk v1 b 110 (wriA T4 4 0) := ⟨hS.1.up hUz, hS.2.up hUz⟩
      have hU := hU.trans hUz
      refine hK.out _ _ (.inr hS) ?_
      clear hK hWz hUz hgz
      try simp only [Act.put, List.setIfInBounds_toArray, List.set_cons_zero, List.set_cons_succ]
      refine anyE_one (i := 6) rfl (by kernel_rfl) rfl (fun K hK => ?_)
      go_simp
      unfold drw at M5
      refine (M5.out _ hU).mono ?_
      rintro e v2 ⟨⟨TT, rfl, hT1, hT2⟩, hUc⟩
      dsimp only
      have hZ := hZ.up hUc
      have hS : GrpAt v2 o P Q G ∧ Blk v2 b 110 (wriA T4 4 0) := ⟨hS.1.up hUc, hS.2.up hUc⟩
      have hU := hU.trans hUc
      refine hK.out _ _ (.inr hS) ?_
      clear hK hUc
      try simp only [Act.put, List.setIfInBounds_toArray, List.set_cons_zero, List.set_cons_succ]
      refine anyE_takeA (i := 7) (v := ?_) 67 rfl rfl (by kernel_rfl) (by decide) (fun _ _ _ h => h) (by kernel_rfl) (by kernel_rfl) (.inl ⟨by rfl, fun u hu => ?_⟩) hS ?_
      rotate_left
      · (obtain ⟨⟨u0, u1, u2⟩, u3⟩ := hu; go_simp; first | done | with_reducible rfl)
      simp only [Act.put, List.setIfInBounds_toArray, List.set_cons_zero, List.set_cons_succ]
      refine anyE_takeA (i := 8) (v := ?_) 75 rfl rfl (by kernel_rfl) (by decide) (fun _ _ _ h => h) (by kernel_rfl) (by kernel_rfl) (.inl ⟨by rfl, fun u hu => ?_⟩) hS ?_
      rotate_left
      · (obtain ⟨⟨u0, u1, u2⟩, u3⟩ := hu; go_simp; first | done | with_reducible rfl)
      simp only [Act.put, List.setIfInBounds_toArray, List.set_cons_zero, List.set_cons_succ]
      refine anyE_takeA (i := 9) (v := ?_) 76 rfl rfl (by kernel_rfl) (by decide) (fun _ _ _ h => h) (by kernel_rfl) (by kernel_rfl) (.inl ⟨by rfl, fun u hu => ?_⟩) hS ?_
      rotate_left
      · (obtain ⟨⟨u0, u1, u2⟩, u3⟩ := hu; go_simp; first | done | with_reducible rfl)
      simp only [Act.put, List.setIfInBounds_toArray, List.set_cons_zero, List.set_cons_succ]
      refine anyE_takeA (i := 10) (v := ?_) 77 rfl rfl (by kernel_rfl) (by decide) (fun _ _ _ h => h) (by kernel_rfl) (by kernel_rfl) (.inl ⟨by rfl, fun u hu => ?_⟩) hS ?_
      rotate_left
      · (obtain ⟨⟨u0, u1, u2⟩, u3⟩ := hu; go_simp; first | done | with_reducible rfl)
      simp only [Act.put, List.setIfInBounds_toArray, List.set_cons_zero, List.set_cons_succ]
      refine anyE_one (i := 12) rfl (by kernel_rfl) rfl (fun K hK => ?_)
      refine op_store_row 108 _ _ rfl rfl gz TT rfl rfl 108 (drwA zeroH 0) hZ (by rw [hT1]; kernel_rfl) (by rw [drwA_size, hT1]) hT2 ?_
      have hS : GrpAt (v2.setRow gz TT) o P Q G ∧ Blk (v2.setRow gz TT) b 110 (wriA T4 4 0) := ⟨grp_row hS.1 hgo, Blk.rowApart hS.2 hgb _⟩
      have hU := hU.setRow hgu TT
      refine hK.out _ _ (.inr hS) ?_
      clear hK
      try simp only [Act.put, List.setIfInBounds_toArray, List.set_cons_zero, List.set_cons_succ]
      refine anyE_one (i := 13) rfl (by kernel_rfl) rfl (fun K hK => ?_)
      go_simp
      refine hK.out _ _ (.inr hS) ?_
      clear hK
      try simp only [Act.put, List.setIfInBounds_toArray, List.set_cons_zero, List.set_cons_succ]
      refine anyE_one (i := 14) rfl (by kernel_rfl) rfl (fun K hK => ?_)
      go_simp
      refine hK.out _ _ (.inr hS) (anyE_done (by kernel_rfl) ?_ _)
      clear hK
      go_wp2
      go_ret2
      exact ⟨rfl, hU⟩
end Go.Proofs.YtkimojconidhlaaDoor
namespace Go.Proofs.YtkimojconidhlaaDoor
open Go.RowKit Go.Sp
set_option maxHeartbeats 4000000
set_option maxRecDepth 20000

/-- A right signature. -/
def verB (P Q G A B C k1 k2 k3 p : Int) (root : Nat → Int) (z a b r : Int) : Bool :=
  kvB P Q G A B C k1 k2 k3 && (gnB P Q p && (exB Q r && ([z, a, b].all (elB P Q) && (coinC P Q G A B C p root z a b != 0 && cvE P G k1 p z a b (coinC P Q G A B C p root z a b) r))))

end Go.Proofs.YtkimojconidhlaaDoor
namespace Go.Proofs.YtkimojconidhlaaDoor
open Go.RowKit Go.Sp
set_option maxHeartbeats 4000000
set_option maxRecDepth 20000

end Go.Proofs.YtkimojconidhlaaDoor
namespace Go.Proofs.YtkimojconidhlaaDoor
open Go.RowKit Go.Sp
set_option maxHeartbeats 1000000
set_option maxRecDepth 20000

/-- The slice's length is within its capacity. -/
def Room (v : Value) : Prop := ∃ a n cap, v = .slice a n cap ∧ n ≤ cap ∧ cap ≤ 9223372036854775807 ∧ (a = none → cap = 0)

theorem ints_sub {w : World} {b off n cap lo hi c : Nat} {xs : List Int} (h : IntsAt w (.slice (some ⟨b, off, none⟩) n cap) xs) (h1 : lo ≤ hi) (h2 : hi ≤ n) : IntsAt w (.slice (some ⟨b, off + lo, none⟩) (hi - lo) c) ((xs.drop lo).take (hi - lo)) := by
  obtain ⟨hl, a', cap', hv, hcell⟩ := h
  injection hv with e1 e2 e3
  subst e1 e2 e3
  have hlen : ((xs.drop lo).take (hi - lo)).length = hi - lo := by simp; omega
  refine ⟨by omega, _, _, by rw [hlen], fun hne => ?_⟩
  have h3 : lo < hi := by
    refine Nat.lt_of_le_of_ne h1 fun e => hne ?_
    rw [e, Nat.sub_self, List.take_zero]
  obtain ⟨b', off', hb, hk⟩ := hcell (by rintro rfl; simp at h2; omega)
  injection hb with hb
  injection hb with hb1 hb2
  subst hb1 hb2
  refine ⟨b, off + lo, rfl, fun i hi' => ?_⟩
  rw [hlen] at hi'
  have := hk (lo + i) (by omega)
  rw [Nat.add_assoc, this]
  simp [hi', List.getElem?_drop]

theorem drop_split (xs : List Int) (f d : Nat) : xs.drop f = (xs.drop f).take d ++ xs.drop (f + d) := by
  rw [← List.drop_drop, List.take_append_drop]

/-- A slice of slices of integers. -/
def RowsAt (w : World) (v : Value) (rs : List (List Int)) : Prop :=
  rs.length ≤ 9223372036854775807 ∧ ∃ a cap, v = .slice a rs.length cap ∧ (rs ≠ [] → ∃ b off, a = some ⟨b, off, none⟩ ∧ ∀ i, i < rs.length → ∃ u, w.cell? ⟨b, off + i, none⟩ = some u ∧ IntsAt w u (rs.getD i []))

theorem RowsAt.up {w w' : World} {v : Value} {rs : List (List Int)} (h : RowsAt w v rs) (hU : Up w w') : RowsAt w' v rs := by
  obtain ⟨hl, a, cap, rfl, hc⟩ := h
  refine ⟨hl, a, cap, rfl, fun hne => ?_⟩
  obtain ⟨b, off, rfl, hcell⟩ := hc hne
  refine ⟨b, off, rfl, fun i hi => ?_⟩
  obtain ⟨u, hu, hI⟩ := hcell i hi
  exact ⟨u, by rw [hU.cell (cell_lt hu)]; exact hu, hI.up hU⟩

theorem rows_cell {w w' : World} {a : Option Addr} {n cap : Nat} {rs : List (List Int)} (h : RowsAt w (.slice a n cap) rs) (hU : Up w w') {i : Nat} (hi : i < rs.length) :
    ∃ b off u, a = some ⟨b, off, none⟩ ∧ w'.cell? ⟨b, off + i, none⟩ = some u ∧ IntsAt w' u (rs.getD i []) := by
  obtain ⟨_, a', cap', hv, hc⟩ := h
  injection hv with e1 e2 e3
  subst e1
  obtain ⟨b, off, rfl, hcell⟩ := hc (by rintro rfl; simp at hi)
  obtain ⟨u, hu, hI⟩ := hcell i hi
  exact ⟨b, off, u, rfl, cellUp hU hu, hI.up hU⟩

theorem rows_drop {rs : List (List Int)} {i : Nat} (hi : i < rs.length) : rs.drop i = rs.getD i [] :: rs.drop (i + 1) := by
  rw [List.drop_eq_getElem_cons hi]; simp [hi]
theorem rows_mem {rs : List (List Int)} {i : Nat} (hi : i < rs.length) : rs.getD i [] ∈ rs := by simp [hi]
end Go.Proofs.YtkimojconidhlaaDoor
namespace Go.Proofs.YtkimojconidhlaaDoor
open Go.RowKit Go.Sp

theorem sliced_ints {w : World} {v : Value} {xs : List Int} (h : IntsAt w v xs) (r : Room v) (lo hi : Nat) (h1 : lo ≤ hi) (h2 : hi ≤ xs.length) :
    ∃ a n cap, v = .slice a n cap ∧ n = xs.length ∧ n ≤ cap ∧ IntsAt w (sliced a lo hi cap 1) ((xs.drop lo).take (hi - lo)) := by
  obtain ⟨a, n, cap, rfl, hle, hmx, hnone⟩ := r
  obtain ⟨hl, a', cap', hv, hc⟩ := id h
  simp only [Value.slice.injEq] at hv
  obtain ⟨rfl, rfl, rfl⟩ := hv
  refine ⟨a, xs.length, cap, rfl, rfl, hle, ?_⟩
  have hlen : ((xs.drop lo).take (hi - lo)).length = hi - lo := by simp; omega
  by_cases hne : hi - lo = 0
  · have hnil : (xs.drop lo).take (hi - lo) = [] := List.length_eq_zero_iff.1 (by omega)
    rw [hnil]
    unfold sliced
    rw [hne]
    exact ⟨by simp, _, _, rfl, fun hx => absurd rfl hx⟩
  · obtain ⟨b, off, rfl, hcell⟩ := hc (by rintro rfl; simp at h2; omega)
    have := ints_sub (c := cap - lo) h h1 h2
    unfold sliced
    have hcap : cap ≠ lo := by omega
    simpa [hcap, Addr.add_lit] using this

theorem run_lo (a : Option Addr) (n cap k : Nat) (h : k ≤ n) (W : World) : (Instr.slice 62 (.slice a n cap) (some (.int .i64 k)) none none).run Tryd.prog W = .ok (sliced a k n cap 1) W := by
  rw [run_slice_l (P := Tryd.prog) W 62 a n cap (by kernel_rfl) .i64 k (by omega) (by omega)]
  simp [show ∀ W, (sizeOf (Tryd.prog.elem 62)).run Tryd.prog W = .ok 1 W from fun W => by kernel_rfl, Result.andThen]

theorem run_hi (a : Option Addr) (n cap k : Nat) (h : k ≤ cap) (W : World) : (Instr.slice 62 (.slice a n cap) none (some (.int .i64 k)) none).run Tryd.prog W = .ok (sliced a 0 k cap 1) W := by
  rw [run_slice_h (P := Tryd.prog) W 62 a n cap (by kernel_rfl) .i64 k (by omega) (by omega)]
  simp [show ∀ W, (sizeOf (Tryd.prog.elem 62)).run Tryd.prog W = .ok 1 W from fun W => by kernel_rfl, Result.andThen]

/-- v[:k] and v[k:]. -/
theorem sub_runs {w : World} {a : Option Addr} {n cap : Nat} {xs : List Int} (h : IntsAt w (.slice a n cap) xs) (r : Room (.slice a n cap)) (k : Nat) (hk : k ≤ n) :
    ∃ u v, (∀ W, (Instr.slice 62 (.slice a n cap) none (some (.int .i64 k)) none).run Tryd.prog W = .ok u W) ∧ (∀ W, (Instr.slice 62 (.slice a n cap) (some (.int .i64 k)) none none).run Tryd.prog W = .ok v W) ∧
      IntsAt w u (xs.take k) ∧ IntsAt w v (xs.drop k) := by
  have hn : n = xs.length := by
    obtain ⟨_, _, _, hv, _⟩ := h
    simp only [Value.slice.injEq] at hv
    exact hv.2.1
  obtain ⟨a1, n1, c1, hv1, _, hle, i1⟩ := sliced_ints h r 0 k (by omega) (by omega)
  obtain ⟨a2, n2, c2, hv2, _, _, i2⟩ := sliced_ints h r k n (by omega) (by omega)
  simp only [Value.slice.injEq] at hv1 hv2
  obtain ⟨rfl, rfl, rfl⟩ := hv1
  obtain ⟨rfl, -, rfl⟩ := hv2
  refine ⟨_, _, run_hi a n cap k (by omega), run_lo a n cap k hk, by simpa using i1, ?_⟩
  rw [List.take_of_length_le (by simp; omega)] at i2
  exact i2
end Go.Proofs.YtkimojconidhlaaDoor
