/- product.Table. -/
import Derived.Test.YtmbbnjbohnobcaaDoorTabB
namespace Go.Proofs.YtmbbnjbohnobcaaDoor
open Go.RowKit Go.Sp
set_option maxHeartbeats 2000000
set_option maxRecDepth 20000

/-- A table as a value. -/
abbrev tabV (b : Int) (v : Value) : Value := .agg #[.int .i64 b, v]

theorem Table_arg (P Q G b : Int) (w : World) (hP : -9223372036854775808 ≤ P) (hQ : Q ≤ 9223372036854775807) (hT : Tab w) (hg : gvB P Q G = false) :
    Calls Tryd.prog 62 #[grp P Q G, .int .i64 b] w fun e w' => e = .returned (.tuple #[tabV 0 (.slice none 0 0), .int .i64 1]) ∧ Up w w' := by
  have HT := hid hT
  have HG := hid hg
  clear hT hg
  go_enter Tryd.func62, Tryd.ntmps62
  go_wp2_with fail
  refine (Valid_any P Q G _ hP hQ (HT.out.up (((Up.refl w).alloc _).alloc _))).mono ?_
  rintro e w1 ⟨rfl, hU1⟩
  rw [HG.out]
  have hB := second_box hU1
  have k0 := hB.read 0
  have k1 := hB.read 1
  have z0 := hB.thawed 0
  have z1 := hB.thawed 1
  simp at k0 k1
  have HU1 := hid ((((Up.refl w).alloc _).alloc _).trans hU1)
  have hs : w.heap.size + 1 < w1.heap.size := hB.lt
  clear hB hU1
  go_wp2
  refine bodyPost_ret (v := .tuple #[tabV 0 (.slice none 0 0), .int .i64 1]) (by simp [results, Tryd.results62, go_sem, k0, k1]) rfl ⟨rfl, ?_⟩
  exact (HU1.out.setCell (by simp) _).setCell (by simp) _

theorem Table_range (P Q G b : Int) (w : World) (hT : Tab w) (hg : gvB P Q G = true) (hb : elB P Q b = false) :
    Calls Tryd.prog 62 #[grp P Q G, .int .i64 b] w fun e w' => e = .returned (.tuple #[tabV 0 (.slice none 0 0), .int .i64 2]) ∧ Up w w' := by
  have HT := hid hT
  have g := gv_iff.1 hg
  have g1 := g.P61
  have g2 := g.P4
  have g4 := g.QP
  have HG := hid hg
  have HC : Hid (conB P Q G b = false) := hid (by simp [conB, hg, hb])
  clear hT hg hb g
  go_enter Tryd.func62, Tryd.ntmps62
  go_wp2_with fail
  refine (Valid_any P Q G _ (by omega) (by omega) (HT.out.up (((Up.refl w).alloc _).alloc _))).mono ?_
  rintro e w1 ⟨rfl, hU1⟩
  rw [HG.out]
  have HU1 := hid ((((Up.refl w).alloc _).alloc _).trans hU1)
  have HBx := hid (second_box hU1)
  have HGr := hid ((box_reads (o := .cells #[.int .i64 P, .int .i64 Q, .int .i64 G] 23) rfl ((Up.refl (w.alloc _)).alloc _)).up hU1)
  obtain ⟨c0, c1, c2⟩ := HGr.out
  clear hU1
  go_wp2_with fail
  refine (Contains_any P Q G b _ (by omega) (by omega) (HT.out.up HU1.out)).mono ?_
  rintro e w2 ⟨rfl, hU2⟩
  rw [HC.out]
  have hB := HBx.out.up hU2
  have k0 := hB.read 0
  have k1 := hB.read 1
  have z0 := hB.thawed 0
  have z1 := hB.thawed 1
  simp at k0 k1
  have HU2 := hid (HU1.out.trans hU2)
  have hs : w.heap.size + 1 < w2.heap.size := hB.lt
  clear hB hU2 c0 c1 c2
  go_wp2
  refine bodyPost_ret (v := .tuple #[tabV 0 (.slice none 0 0), .int .i64 2]) (by simp [results, Tryd.results62, go_sem, k0, k1]) rfl ⟨rfl, ?_⟩
  exact (HU2.out.setCell (by simp) _).setCell (by simp) _

def TableOut (P Q b : Int) (w : World) (e : Ending) (w' : World) : Prop :=
  ∃ v, e = .returned (.tuple #[tabV b v, .int .i64 0]) ∧ OwnI w' w.heap.size v (tabL P (digs Q) b) ∧ Up w w'

theorem tab_grow {P s : Int} {L : List Int} {d : Nat} : L ++ tabL.powList16 P s (d + 1) = (L ++ tabL.powList16 P s d) ++ [pw s d P] := by rw [pl16_succ, List.append_assoc]

theorem Table_ok (P Q G b : Int) (w : World) (hT : Tab w) (hg : gvB P Q G = true) (hb : elB P Q b = true) :
    Calls Tryd.prog 62 #[grp P Q G, .int .i64 b] w (TableOut P Q b w) := by
  have HT := hid hT
  have g := gv_iff.1 hg
  have g1 := g.P61
  have g2 := g.P4
  have g3 := g.Q3
  have g4 := g.QP
  have Hg := hid hg
  have Hb := hid hb
  obtain ⟨b0, b1, _⟩ := el_iff.1 hb
  have HC : Hid (conB P Q G b = true) := hid (by simp [conB, hg, hb])
  obtain ⟨i0, hi, hz0, hz1, hz2⟩ := info_parts infoInt
  clear hT hg hb g
  go_enter Tryd.func62, Tryd.ntmps62
  go_wp2_with fail
  refine (Valid_any P Q G _ (by omega) (by omega) (HT.out.up (((Up.refl w).alloc _).alloc _))).mono ?_
  rintro e w1 ⟨rfl, hU1⟩
  rw [Hg.out]
  have HU1 := hid ((((Up.refl w).alloc _).alloc _).trans hU1)
  have HBx := hid (second_box hU1)
  have HGr := hid ((box_reads (o := .cells #[.int .i64 P, .int .i64 Q, .int .i64 G] 23) rfl ((Up.refl (w.alloc _)).alloc _)).up hU1)
  obtain ⟨c0, c1, c2⟩ := HGr.out
  clear hU1
  go_wp2_with fail
  refine (Contains_any P Q G b _ (by omega) (by omega) (HT.out.up HU1.out)).mono ?_
  rintro e w2 ⟨rfl, hU2⟩
  rw [HC.out]
  have HB2 := hid (HBx.out.up hU2)
  have HG2 := hid (HGr.out.up hU2)
  have HU2 := hid (HU1.out.trans hU2)
  clear hU2 HU1 HBx HGr
  obtain ⟨c0, c1, c2⟩ := HG2.out
  have hs2 : w.heap.size + 1 < w2.heap.size := HB2.out.lt
  have hs3 : w.heap.size < w2.heap.size := by omega
  go_wp2_with fail
  refine (digits_ok P Q G _ (by omega) (by omega)).mono ?_
  rintro e w3 ⟨rfl, hU3⟩
  have HX3 := hid (BoxAt.up (BoxAt.new w2 108 #[.int .i64 b, .slice none 0 0]) hU3)
  have HB3 := hid (HB2.out.up (((Up.refl w2).alloc _).trans hU3))
  have HG3 := hid (HG2.out.up (((Up.refl w2).alloc _).trans hU3))
  have HU3 := hid (HU2.out.trans (((Up.refl w2).alloc _).trans hU3))
  clear hU3 HU2 HB2 HG2 c0 c1 c2
  obtain ⟨D, hD⟩ : ∃ D, digs Q = D := ⟨_, rfl⟩
  have hD16 : D ≤ 16 := by rw [← hD]; exact digs_le Q
  have HL0 : Hid (TableOut P Q b w = fun e w' => ∃ v, e = .returned (.tuple #[tabV b v, .int .i64 0]) ∧ OwnI w' w.heap.size v (tabL P D b) ∧ Up w w') := hid (by unfold TableOut; rw [hD])
  rw [hD]
  obtain ⟨o, ho⟩ : ∃ o, w.heap.size = o := ⟨_, rfl⟩
  have HOo := hid ho
  rw [ho] at HB3 HG3 hs2
  clear hs3
  rw [ho]
  obtain ⟨tb, htb⟩ : ∃ tb, w2.heap.size = tb := ⟨_, rfl⟩
  rw [htb] at HX3 hs2
  rw [htb]
  clear hD ho htb
  go_wp2_with fail
  go_loopw [7, 25] (fun vs vj wr => ∃ (j r : Nat) (s : Int) (v : Value) (L : List Int), vs = .int .i64 s ∧ vj = .int .i64 j ∧ j + r = D ∧ Hid (tabL P D b = L ++ tabL P r s) ∧ Hid (L.length = 16 * j) ∧ Hid (elB P Q s = true) ∧ Hid (BoxAt wr tb 108 #[.int .i64 b, v]) ∧ Hid (OwnI wr (tb + 1) v L) ∧ Hid (BoxAt wr (o + 1) 108 #[.int .i64 0, .slice none 0 0]) ∧ Hid (GrpAt wr o P Q G) ∧ Hid (Up w wr)) (fun _ vj _ => D - (intOf vj).toNat)
  case atStart => exact ⟨0, D, b, .slice none 0 0, [], rfl, rfl, by omega, hid rfl, hid rfl, Hb, HX3, hid ⟨by simp, .inl ⟨rfl, rfl⟩⟩, HB3, HG3, HU3⟩
  case round =>
    obtain ⟨j, r, s, v, L, rfl, rfl, hjr, HT2, HLn, HS, HX, HO, HB, HG, HU⟩ := hrel
    by_cases hl : j < D
    · have hlZ : (j : Int) < (D : Int) := by omega
      obtain ⟨r', rfl⟩ : ∃ r', r = r' + 1 := ⟨r - 1, by omega⟩
      go_wp2_with fail
      obtain ⟨wo, hwo⟩ : ∃ wo, wr = wo := ⟨wr, rfl⟩
      subst hwo
      go_loopw [8, 27] (fun vx vd wi => ∃ (d : Nat) (v : Value), vx = .int .i64 (pw s d P) ∧ vd = .int .i64 d ∧ d ≤ 16 ∧ Hid (BoxAt wi tb 108 #[.int .i64 b, v]) ∧ Hid (OwnI wi (tb + 1) v (L ++ tabL.powList16 P s d)) ∧ Hid (BoxAt wi (o + 1) 108 #[.int .i64 0, .slice none 0 0]) ∧ Hid (GrpAt wi o P Q G) ∧ Hid (Up w wi)) (fun _ vd _ => 16 - (intOf vd).toNat)
      case atStart => exact ⟨0, v, by rw [pw_zero, Int.emod_eq_of_lt (by omega) (by omega)], rfl, by omega, HX, hid (by rw [pl16_zero, List.append_nil]; exact HO.out), HB, HG, HU⟩
      case round =>
        obtain ⟨d, u, rfl, rfl, hd, HX, HO, HB, HG, HU⟩ := hrel
        by_cases hd2 : d < 16
        · have hdZ : (d : Int) < 16 := by omega
          have x1 := pw_lt s d (show 0 < P by omega)
          have x0 := pw_nonneg s d (show 0 < P by omega)
          have HXe := hid (el_pw (n := d) (by omega) (by omega) HS.out)
          obtain ⟨s0, s1, _⟩ := el_iff.1 HS.out
          have HN : Hid (pw s d P * s % P = pw s (d + 1) P) := hid (by rw [pw_add, pw_one_exp (by omega) s1])
          have HP16 := hid (tab_grow (P := P) (s := s) (L := L) (d := d))
          have hlen : (L ++ tabL.powList16 P s d).length = 16 * j + d := by rw [List.length_append, pl16_len, HLn.out]
          have HLe := hid hlen
          have hown := HO.out.row hlen
          have k1 := HX.out.read 1
          simp at k1
          have htl : tb < wr.heap.size := HX.out.lt
          generalize pw s d P = x at *
          obtain ⟨L1, hL1⟩ : ∃ L1, L ++ tabL.powList16 P s d = L1 := ⟨_, rfl⟩
          rw [hL1] at HO HP16 hown HLe
          clear hlen hL1
          go_wp2_with (at_builtin; refine wpList_append_own _ rfl _ _ 24 rfl (tb + 1) 3 i0 (.int .i64 0) 1 8 Tryd.underlying24 hi hz0 hz1 hz2 rfl (by decide) _ _ _ rfl (hown.alloc _) ⟨wr.heap.size, 0, none⟩ 1 1 [.int .i64 x] rfl rfl ?c1 ?c2 ?c3 ?c4 ?c5 ?_)
          case c1 => go_simp
          case c2 => intro y hy; simp at hy; subst hy; rfl
          case c3 => unfold maxLen; omega
          case c4 => omega
          case c5 => simp; omega
          intro v' w4 hown' hgrow _
          obtain ⟨hO4, hU4, hB4⟩ := appended HLe.out HO.out hown' hgrow HU.out (by rw [HOo.out]; omega) (by omega)
          rw [← HP16.out] at hO4
          obtain ⟨pv, mv, cv, rfl⟩ := hO4.slice
          have hX4 := HX.out.below hB4 (by omega)
          have hR4 := HB.out.below hB4 (by omega)
          have hG4 := HG.out.below (show o < tb + 1 by omega) hB4
          have r1 := hX4.read 1
          have z1 := hX4.thawed 1
          simp at r1
          obtain ⟨Ws, hWs⟩ : ∃ Ws, w4.setCell ⟨tb, 1, none⟩ (.slice pv mv cv) = Ws := ⟨_, rfl⟩
          have HX5 : Hid (BoxAt Ws tb 108 #[.int .i64 b, .slice pv mv cv]) := hid (by rw [← hWs]; exact hX4.wrote 1 (.slice pv mv cv))
          have HO5 : Hid (OwnI Ws (tb + 1) (.slice pv mv cv) (L ++ tabL.powList16 P s (d + 1))) := hid (by rw [← hWs]; exact hO4.apart (by show tb < tb + 1; omega) (.slice pv mv cv))
          have HB5 : Hid (BoxAt Ws (o + 1) 108 #[.int .i64 0, .slice none 0 0]) := hid (by rw [← hWs]; exact hR4.apart (by show o + 1 ≠ tb; omega) (.slice pv mv cv))
          have HG5 : Hid (GrpAt Ws o P Q G) := hid (by rw [← hWs]; exact hG4.apart (by show o ≠ tb; omega) (.slice pv mv cv))
          have HU5 : Hid (Up w Ws) := hid (by rw [← hWs]; exact hU4.setCell (by rw [HOo.out]; show o ≤ tb; omega) (.slice pv mv cv))
          clear hown' hgrow hO4 hU4 hB4 hX4 hR4 hG4 hown k1 htl HX HO HB HG HU HP16
          obtain ⟨c0, c1, c2⟩ := HG5.out
          go_wp2_with fail
          refine (gMul_ok P Q G x s _ (by omega) (HT.out.up HU5.out) Hg.out HXe.out HS.out).mono ?_
          rintro e w6 ⟨rfl, hU6⟩
          rw [HN.out]
          have HX6 := hid (HX5.out.up hU6)
          have HO6 := hid (HO5.out.up hU6)
          have HB6 := hid (HB5.out.up hU6)
          have HG6 := hid (HG5.out.up hU6)
          have HU6 := hid (HU5.out.trans hU6)
          clear hU6 hWs c0 c1 c2 r1 z1
          go_wp2_with fail
          go_roundw
          case rel => exact ⟨d + 1, (.slice pv mv cv), rfl, by go_num, by omega, HX6, HO6, HB6, HG6, HU6⟩
          case measure => simp [intOf]; omega
        · obtain rfl : d = 16 := by omega
          have HT3 : Hid (tabL P D b = (L ++ tabL.powList16 P s 16) ++ tabL P r' (pw s 16 P)) := hid (by rw [HT2.out, tabL, List.append_assoc])
          have HL3 : Hid ((L ++ tabL.powList16 P s 16).length = 16 * (j + 1)) := hid (by rw [List.length_append, pl16_len, HLn.out]; omega)
          have HS3 := hid (el_pw (n := 16) (by omega) (by omega) HS.out)
          go_wp2_with fail
          go_roundw
          case rel => exact ⟨j + 1, r', _, u, _, rfl, by go_num, by omega, HT3, HL3, HS3, HX, HO, HB, HG, HU⟩
          case measure => simp [intOf]; omega
    · obtain rfl : j = D := by omega
      obtain rfl : r = 0 := by omega
      obtain ⟨pv, mv, cv, rfl⟩ := HO.out.slice
      have hLe : tabL P j b = L := by rw [HT2.out, tabL, List.append_nil]
      have k0 := HX.out.read 0
      have k1 := HX.out.read 1
      have q0 := HB.out.read 0
      have q1 := HB.out.read 1
      have z0 := HB.out.thawed 0
      have z1 := HB.out.thawed 1
      simp at k0 k1 q0 q1
      have HLe := hid hLe
      clear hLe
      go_wp2
      refine bodyPost_ret (v := .tuple #[tabV b (.slice pv mv cv), .int .i64 0]) (by simp [results, Tryd.results62, go_sem, q0, q1]) rfl ?_
      rw [HL0.out]
      refine ⟨_, rfl, ?_, (HU.out.setCell (by rw [HOo.out]; show o ≤ o + 1; omega) _).setCell (by rw [HOo.out]; show o ≤ o + 1; omega) _⟩
      rw [HLe.out]
      exact ((HO.out.apart (by show o + 1 < tb + 1; omega) _).apart (by show o + 1 < tb + 1; omega) _).mono (by rw [HOo.out]; omega)
end Go.Proofs.YtmbbnjbohnobcaaDoor
