/- specieref12.Table. -/
import Derived.Test.YtldodbffdegmiaaDoorTabC
namespace Go.Proofs.YtldodbffdegmiaaDoor
open Go.RowKit Go.Sp
set_option maxHeartbeats 2000000
set_option maxRecDepth 20000

theorem third_box {w w1 : World} {o1 o2 : Obj} {t : TypeId} {cs : Array Value} (hU : Up (((w.alloc o1).alloc o2).alloc (.cells cs t)) w1) : BoxAt w1 (w.heap.size + 2) t cs := by
  have h := BoxAt.up (BoxAt.new ((w.alloc o1).alloc o2) t cs) hU
  simpa using h

def RTableOut (P Q b : Int) (w : World) (e : Ending) (w' : World) : Prop :=
  ∃ v, e = .returned (tabV b v) ∧ OwnI w' w.heap.size v (tabL P (digs Q) b) ∧ Up w w'

theorem rTable_ok (P Q G b : Int) (w : World) (hg : gvB P Q G = true) (hb : elB P Q b = true) :
    Calls Tryd.prog 56 #[grp P Q G, .int .i64 b] w (RTableOut P Q b w) := by
  have g := gv_iff.1 hg
  have g1 := g.P61
  have g2 := g.P4
  have g3 := g.Q3
  have g4 := g.QP
  have Hg := hid hg
  have Hb := hid hb
  obtain ⟨b0, b1, _⟩ := el_iff.1 hb
  obtain ⟨i0, hi, hz0, hz1, hz2⟩ := info_parts infoInt
  clear hg hb g
  go_enter Tryd.func56, Tryd.ntmps56
  go_wp2_with fail
  have HX3 := hid (third_box (w := w) (o1 := .cells #[.int .i64 P, .int .i64 Q, .int .i64 G] 23) (o2 := .cells #[.int .i64 0, .slice none 0 0] 58) (t := 58) (cs := #[.int .i64 b, .slice none 0 0]) (Up.refl _))
  have HB3 := hid (second_box (w := w) (o := .cells #[.int .i64 P, .int .i64 Q, .int .i64 G] 23) (t := 58) (cs := #[.int .i64 0, .slice none 0 0]) ((Up.refl _).alloc (.cells #[.int .i64 b, .slice none 0 0] 58)))
  have HG3 := hid (box_reads (w := w) (P := P) (Q := Q) (G := G) rfl (((Up.refl _).alloc (.cells #[.int .i64 0, .slice none 0 0] 58)).alloc (.cells #[.int .i64 b, .slice none 0 0] 58)))
  have HU3 := hid ((((Up.refl w).alloc (.cells #[.int .i64 P, .int .i64 Q, .int .i64 G] 23)).alloc (.cells #[.int .i64 0, .slice none 0 0] 58)).alloc (.cells #[.int .i64 b, .slice none 0 0] 58))
  obtain ⟨D, hD⟩ : ∃ D, digs Q = D := ⟨_, rfl⟩
  have hD16 : D ≤ 16 := by rw [← hD]; exact digs_le Q
  have HL0 : Hid (RTableOut P Q b w = fun e w' => ∃ v, e = .returned (tabV b v) ∧ OwnI w' w.heap.size v (tabL P D b) ∧ Up w w') := hid (by unfold RTableOut; rw [hD])
  obtain ⟨o, ho⟩ : ∃ o, w.heap.size = o := ⟨_, rfl⟩
  have HOo := hid ho
  rw [ho] at HB3 HG3 HX3
  rw [ho]
  obtain ⟨tb, htb⟩ : ∃ tb, o + 2 = tb := ⟨_, rfl⟩
  have hs2 : o + 1 < tb := by omega
  rw [htb] at HX3
  have htb1 : o + 1 + 1 = tb := htb
  rw [show o + 1 + 1 = tb from htb1]
  have HDg := hid (fun w' => rDigits_ok P Q G w' (by omega) (by omega))
  rw [hD] at HDg
  clear hD ho htb htb1
  go_loopw [6, 7] (fun vs vj wr => ∃ (j r : Nat) (s : Int) (v : Value) (L : List Int), vs = .int .i64 s ∧ vj = .int .i64 j ∧ j + r = D ∧ Hid (tabL P D b = L ++ tabL P r s) ∧ Hid (L.length = 16 * j) ∧ Hid (elB P Q s = true) ∧ Hid (BoxAt wr tb 58 #[.int .i64 b, v]) ∧ Hid (OwnI wr (tb + 1) v L) ∧ Hid (BoxAt wr (o + 1) 58 #[.int .i64 0, .slice none 0 0]) ∧ Hid (GrpAt wr o P Q G) ∧ Hid (Up w wr)) (fun _ vj _ => D - (intOf vj).toNat)
  case atStart => exact ⟨0, D, b, .slice none 0 0, [], rfl, rfl, by omega, hid rfl, hid rfl, Hb, HX3, hid ⟨by simp, .inl ⟨rfl, rfl⟩⟩, HB3, HG3, HU3⟩
  case round =>
    obtain ⟨j, r, s, v, L, rfl, rfl, hjr, HT2, HLn, HS, HX0, HO0, HB0, HG0, HU0⟩ := hrel
    obtain ⟨c0, c1, c2⟩ := HG0.out
    go_wp2_with fail
    refine (HDg.out _).mono ?_
    rintro e wr ⟨rfl, hUd⟩
    have HX := hid (HX0.out.up hUd)
    have HO := hid (HO0.out.up hUd)
    have HB := hid (HB0.out.up hUd)
    have HG := hid (HG0.out.up hUd)
    have HU := hid (HU0.out.trans hUd)
    clear hUd c0 c1 c2 HX0 HO0 HB0 HG0 HU0
    by_cases hl : j < D
    · have hlZ : (j : Int) < (D : Int) := by omega
      obtain ⟨r', rfl⟩ : ∃ r', r = r' + 1 := ⟨r - 1, by omega⟩
      go_wp2_with fail
      obtain ⟨wo, hwo⟩ : ∃ wo, wr = wo := ⟨wr, rfl⟩
      subst hwo
      go_loopw [8, 9] (fun vx vd wi => ∃ (d : Nat) (v : Value), vx = .int .i64 (pw s d P) ∧ vd = .int .i64 d ∧ d ≤ 16 ∧ Hid (BoxAt wi tb 58 #[.int .i64 b, v]) ∧ Hid (OwnI wi (tb + 1) v (L ++ tabL.powList16 P s d)) ∧ Hid (BoxAt wi (o + 1) 58 #[.int .i64 0, .slice none 0 0]) ∧ Hid (GrpAt wi o P Q G) ∧ Hid (Up w wi)) (fun _ vd _ => 16 - (intOf vd).toNat)
      case atStart => exact ⟨0, v, by rw [pw_zero, Int.emod_eq_of_lt (by omega) (by omega)], rfl, by omega, HX, hid (by rw [pl16_zero, List.append_nil]; exact HO.out), HB, HG, HU⟩
      case round =>
        obtain ⟨d, u, rfl, rfl, hd, HX, HO, HB, HG, HU⟩ := hrel
        by_cases hd2 : d < 16
        · have hdZ : (d : Int) < 16 := by omega
          have x1 := pw_lt s d (show 0 < P by omega)
          have x0 := pw_nonneg s d (show 0 < P by omega)
          have HXe := hid (el_pw (n := d) (by omega) (by omega) HS.out)
          obtain ⟨s0, s1, _⟩ := el_iff.1 HS.out
          have HN : Hid (pw s d P * s % P = pw s (d + 1) P) := hid (by rw [pw_add, pw_one_exp (by omega) s1])
          have HP16 := hid (tab_grow (P := P) (s := s) (L := L) (d := d))
          have hlen : (L ++ tabL.powList16 P s d).length = 16 * j + d := by rw [List.length_append, pl16_len, HLn.out]
          have HLe := hid hlen
          have hown := HO.out.row hlen
          have k1 := HX.out.read 1
          simp at k1
          have htl : tb < wr.heap.size := HX.out.lt
          generalize pw s d P = x at *
          obtain ⟨L1, hL1⟩ : ∃ L1, L ++ tabL.powList16 P s d = L1 := ⟨_, rfl⟩
          rw [hL1] at HO HP16 hown HLe
          clear hlen hL1
          go_wp2_with (at_builtin; refine wpList_append_own _ rfl _ _ 36 rfl (tb + 1) 3 i0 (.int .i64 0) 1 8 Tryd.underlying36 hi hz0 hz1 hz2 rfl (by decide) _ _ _ rfl (hown.alloc _) ⟨wr.heap.size, 0, none⟩ 1 1 [.int .i64 x] rfl rfl ?c1 ?c2 ?c3 ?c4 ?c5 ?_)
          case c1 => go_simp
          case c2 => intro y hy; simp at hy; subst hy; rfl
          case c3 => unfold maxLen; omega
          case c4 => omega
          case c5 => simp; omega
          intro v' w4 hown' hgrow _
          obtain ⟨hO4, hU4, hB4⟩ := appended HLe.out HO.out hown' hgrow HU.out (by rw [HOo.out]; omega) (by omega)
          rw [← HP16.out] at hO4
          obtain ⟨pv, mv, cv, rfl⟩ := hO4.slice
          have hX4 := HX.out.below hB4 (by omega)
          have hR4 := HB.out.below hB4 (by omega)
          have hG4 := HG.out.below (show o < tb + 1 by omega) hB4
          have r1 := hX4.read 1
          have z1 := hX4.thawed 1
          simp at r1
          obtain ⟨Ws, hWs⟩ : ∃ Ws, w4.setCell ⟨tb, 1, none⟩ (.slice pv mv cv) = Ws := ⟨_, rfl⟩
          have HX5 : Hid (BoxAt Ws tb 58 #[.int .i64 b, .slice pv mv cv]) := hid (by rw [← hWs]; exact hX4.wrote 1 (.slice pv mv cv))
          have HO5 : Hid (OwnI Ws (tb + 1) (.slice pv mv cv) (L ++ tabL.powList16 P s (d + 1))) := hid (by rw [← hWs]; exact hO4.apart (by show tb < tb + 1; omega) (.slice pv mv cv))
          have HB5 : Hid (BoxAt Ws (o + 1) 58 #[.int .i64 0, .slice none 0 0]) := hid (by rw [← hWs]; exact hR4.apart (by show o + 1 ≠ tb; omega) (.slice pv mv cv))
          have HG5 : Hid (GrpAt Ws o P Q G) := hid (by rw [← hWs]; exact hG4.apart (by show o ≠ tb; omega) (.slice pv mv cv))
          have HU5 : Hid (Up w Ws) := hid (by rw [← hWs]; exact hU4.setCell (by rw [HOo.out]; show o ≤ tb; omega) (.slice pv mv cv))
          clear hown' hgrow hO4 hU4 hB4 hX4 hR4 hG4 hown k1 htl HX HO HB HG HU HP16
          obtain ⟨c0, c1, c2⟩ := HG5.out
          go_wp2_with fail
          refine (rgMul_ok P Q G x s _ x0 x1 (by omega) s1 g1).mono ?_
          rintro e w6 ⟨rfl, hU6⟩
          rw [HN.out]
          have HX6 := hid (HX5.out.up hU6)
          have HO6 := hid (HO5.out.up hU6)
          have HB6 := hid (HB5.out.up hU6)
          have HG6 := hid (HG5.out.up hU6)
          have HU6 := hid (HU5.out.trans hU6)
          clear hU6 hWs c0 c1 c2 r1 z1
          go_wp2_with fail
          go_roundw
          case rel => exact ⟨d + 1, (.slice pv mv cv), rfl, by go_num, by omega, HX6, HO6, HB6, HG6, HU6⟩
          case measure => simp [intOf]; omega
        · obtain rfl : d = 16 := by omega
          have HT3 : Hid (tabL P D b = (L ++ tabL.powList16 P s 16) ++ tabL P r' (pw s 16 P)) := hid (by rw [HT2.out, tabL, List.append_assoc])
          have HL3 : Hid ((L ++ tabL.powList16 P s 16).length = 16 * (j + 1)) := hid (by rw [List.length_append, pl16_len, HLn.out]; omega)
          have HS3 := hid (el_pw (n := 16) (by omega) (by omega) HS.out)
          go_wp2_with fail
          go_roundw
          case rel => exact ⟨j + 1, r', _, u, _, rfl, by go_num, by omega, HT3, HL3, HS3, HX, HO, HB, HG, HU⟩
          case measure => simp [intOf]; omega
    · obtain rfl : j = D := by omega
      obtain rfl : r = 0 := by omega
      obtain ⟨pv, mv, cv, rfl⟩ := HO.out.slice
      have hLe : tabL P j b = L := by rw [HT2.out, tabL, List.append_nil]
      have k0 := HX.out.read 0
      have k1 := HX.out.read 1
      have q0 := HB.out.read 0
      have q1 := HB.out.read 1
      have z0 := HB.out.thawed 0
      have z1 := HB.out.thawed 1
      simp at k0 k1 q0 q1
      have HLe := hid hLe
      clear hLe
      go_wp2
      refine bodyPost_ret (v := tabV b (.slice pv mv cv)) (by simp [results, Tryd.results56, go_sem, q0, q1]) rfl ?_
      rw [HL0.out]
      refine ⟨_, rfl, ?_, (HU.out.setCell (by rw [HOo.out]; show o ≤ o + 1; omega) _).setCell (by rw [HOo.out]; show o ≤ o + 1; omega) _⟩
      rw [HLe.out]
      exact ((HO.out.apart (by show o + 1 < tb + 1; omega) _).apart (by show o + 1 < tb + 1; omega) _).mono (by rw [HOo.out]; omega)
end Go.Proofs.YtldodbffdegmiaaDoor
