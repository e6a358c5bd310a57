/- PedersenWeights: the walk. -/
import Derived.Test.YtldodbffdegmiaaDoorPedF
import Derived.Test.YtldodbffdegmiaaDoorOwnB
import Derived.IntWalk
namespace Go.Proofs.YtldodbffdegmiaaDoor
open Go.RowKit Go.Sp
set_option maxHeartbeats 4000000
set_option maxRecDepth 20000

theorem OwnI.room {w : World} {base : Nat} {v : Value} {xs : List Int} (h : OwnI w base v xs) : Room v := by
  rcases h.2 with ⟨hv, hn⟩ | ⟨g, cap, cur, rfl, hb, hg, hn, hm, hs, ht⟩
  · exact ⟨_, _, _, hv, Nat.le_refl _, by omega, fun _ => rfl⟩
  · exact ⟨_, _, _, rfl, hn, by unfold maxLen at hm; omega, fun h => by cases h⟩

/-- The first i commitments. -/
def comL (P Q G C : Int) (ms rs : List Int) (i : Nat) : List Int := (List.range i).map fun j => comV P Q G C (ms.getD j 0) (rs.getD j 0)

theorem comL_len (P Q G C : Int) (ms rs : List Int) (i : Nat) : (comL P Q G C ms rs i).length = i := by simp [comL]
theorem comL_succ (P Q G C : Int) (ms rs : List Int) (i : Nat) : comL P Q G C ms rs (i + 1) = comL P Q G C ms rs i ++ [comV P Q G C (ms.getD i 0) (rs.getD i 0)] := by simp [comL, List.range_succ]

theorem weigh {P Q G A B C : Int} {ms rs ws : List Int} {i : Nat} {M R : Int} (hb : bvB P Q G A B C = true) (hi : i < ws.length) (h : pfold P Q 1 (comL P Q G C ms rs i) (ws.take i) = comV P Q G C M R) :
    pfold P Q 1 (comL P Q G C ms rs (i + 1)) (ws.take (i + 1)) = comV P Q G C ((M + ms.getD i 0 * ws.getD i 0 % Q) % Q) ((R + rs.getD i 0 * ws.getD i 0 % Q) % Q) := by
  have e : ws.take (i + 1) = ws.take i ++ [ws.getD i 0] := by
    rw [List.take_succ_eq_append_getElem hi]; simp [hi]
  rw [comL_succ, e, pfold_append _ _ _ _ _ (by rw [comL_len]; simp; omega), h]
  show comV P Q G C M R * gpw P Q _ _ % P = _
  rw [com_pow hb, com_add hb]

theorem PedersenWeights_walk (P Q G A B C : Int) (v1 v2 v3 : Value) (ms rs ws : List Int) (w : World) (hP : -9223372036854775808 ≤ P) (hQ : Q ≤ 9223372036854775807) (hT : Tab w) (h1 : IntsAt w v1 ms) (h2 : IntsAt w v2 rs) (h3 : IntsAt w v3 ws) (r3 : Room v3) :
    Calls Tryd.prog 15 #[bas P Q G A B C, v1, v2, v3] w fun e w' => e = .returned (.bool true) ∧ Up w w' := by
  have HT := hid hT
  have HI1 := hid h1
  have HI2 := hid h2
  have HI3 := hid h3
  have HR3 := hid r3
  obtain ⟨l1, a1, cp1, rfl, hc1⟩ := h1
  obtain ⟨l2, a2, cp2, rfl, hc2⟩ := h2
  obtain ⟨l3, a3, cp3, rfl, hc3⟩ := h3
  have HC1 := hid hc1
  have HC2 := hid hc2
  have HC3 := hid hc3
  obtain ⟨n, hn⟩ : ∃ n, ms.length = n := ⟨_, rfl⟩
  obtain ⟨n2, hn2⟩ : ∃ n, rs.length = n := ⟨_, rfl⟩
  obtain ⟨n3, hn3⟩ : ∃ n, ws.length = n := ⟨_, rfl⟩
  have HN := hid hn
  have HN2 := hid hn2
  have HN3 := hid hn3
  rw [hn] at HI1 l1
  rw [hn2] at HI2 l2
  rw [hn3] at HI3 HR3 l3
  rw [hn, hn2, hn3]
  obtain ⟨i0, hi, hz0, hz1, hz2⟩ := info_parts infoInt
  clear hT hn hn2 hn3 hc1 hc2 hc3 r3
  go_enter Tryd.func15, Tryd.ntmps15
  go_wp2_with fail
  refine (awake15 _ (HT.out.up ((Up.refl w).alloc _))).mono ?_
  rintro e w1 ⟨rfl, hU1⟩
  have HA1 := hid (bas_reads (o := .cells #[.int .i64 P, .int .i64 Q, .int .i64 G, .int .i64 A, .int .i64 B, .int .i64 C] 73) rfl hU1)
  have HU1 := hid (((Up.refl w).alloc _).trans hU1)
  clear hU1
  by_cases q1 : 12 < n
  case pos =>
    have d1 : decide (12 < n) = true := by simpa using q1
    go_wp2_with fail
    refine (awake15 _ (HT.out.up HU1.out)).mono ?_
    rintro e wz ⟨rfl, hUz⟩
    go_wp2
    go_ret
    exact ⟨rfl, HU1.out.trans hUz⟩
  have d1 : decide (12 < n) = false := by simpa using q1
  by_cases q2 : n = n2
  case neg =>
    have d2 : (n2 != n) = true := by simp; omega
    have d3 : ((n2 : Int) != (n : Int)) = true := by simp; omega
    go_wp2_with fail
    refine (awake15 _ (HT.out.up HU1.out)).mono ?_
    rintro e wz ⟨rfl, hUz⟩
    go_wp2
    go_ret
    exact ⟨rfl, HU1.out.trans hUz⟩
  obtain rfl := q2
  by_cases q3 : n = n3
  case neg =>
    have d2 : (n3 != n) = true := by simp; omega
    have d3 : ((n3 : Int) != (n : Int)) = true := by simp; omega
    go_wp2_with fail
    refine (awake15 _ (HT.out.up HU1.out)).mono ?_
    rintro e wz ⟨rfl, hUz⟩
    go_wp2
    go_ret
    exact ⟨rfl, HU1.out.trans hUz⟩
  obtain rfl := q3
  obtain ⟨⟨c0, c1, c2⟩, c3, c4, c5⟩ := HA1.out
  go_wp2_with fail
  refine (rbValid_any P Q G A B C _ hP hQ).mono ?_
  rintro e w2 ⟨rfl, hU2⟩
  have HA2 := hid (HA1.out.up hU2)
  have HU2 := hid (HU1.out.trans hU2)
  clear hU2 c0 c1 c2 c3 c4 c5 HA1
  obtain ⟨⟨c0, c1, c2⟩, c3, c4, c5⟩ := HA2.out
  by_cases hb : bvB P Q G A B C = true
  case neg =>
    have hb' : bvB P Q G A B C = false := by simpa using hb
    rw [hb']
    clear hb hb'
    go_wp2_with fail
    refine (awake15 _ (HT.out.up HU2.out)).mono ?_
    rintro e wz ⟨rfl, hUz⟩
    go_wp2
    go_ret
    exact ⟨rfl, HU2.out.trans hUz⟩
  have Hb := hid hb
  obtain ⟨hg, _⟩ := bv_iff.1 hb
  have g := gv_iff.1 hg
  have g1 := g.P61
  have g2 := g.P4
  have g3 := g.Q3
  have g4 := g.QP
  rw [hb]
  clear hb g hg
  go_wp2_with fail
  refine (rScalars_any P Q G _ ms _ (HI1.out.up HU2.out)).mono ?_
  rintro e w3 ⟨rfl, hU3⟩
  have HA3 := hid (HA2.out.up hU3)
  have HU3 := hid (HU2.out.trans hU3)
  clear hU3 c0 c1 c2 c3 c4 c5 HA2
  obtain ⟨⟨c0, c1, c2⟩, c3, c4, c5⟩ := HA3.out
  by_cases hs1 : ms.all (exB Q) = true
  case neg =>
    have hs' : ms.all (exB Q) = false := by simpa using hs1
    rw [hs']
    clear hs1 hs'
    go_wp2_with fail
    refine (awake15 _ (HT.out.up HU3.out)).mono ?_
    rintro e wz ⟨rfl, hUz⟩
    go_wp2
    go_ret
    exact ⟨rfl, HU3.out.trans hUz⟩
  have HS1 := hid (List.all_eq_true.1 hs1)
  rw [hs1]
  clear hs1
  go_wp2_with fail
  refine (rScalars_any P Q G _ rs _ (HI2.out.up HU3.out)).mono ?_
  rintro e w4 ⟨rfl, hU4⟩
  have HA4 := hid (HA3.out.up hU4)
  have HU4 := hid (HU3.out.trans hU4)
  clear hU4 c0 c1 c2 c3 c4 c5 HA3
  obtain ⟨⟨c0, c1, c2⟩, c3, c4, c5⟩ := HA4.out
  by_cases hs2 : rs.all (exB Q) = true
  case neg =>
    have hs' : rs.all (exB Q) = false := by simpa using hs2
    rw [hs']
    clear hs2 hs'
    go_wp2_with fail
    refine (awake15 _ (HT.out.up HU4.out)).mono ?_
    rintro e wz ⟨rfl, hUz⟩
    go_wp2
    go_ret
    exact ⟨rfl, HU4.out.trans hUz⟩
  have HS2 := hid (List.all_eq_true.1 hs2)
  rw [hs2]
  clear hs2
  go_wp2_with fail
  refine (rScalars_any P Q G _ ws _ (HI3.out.up HU4.out)).mono ?_
  rintro e w5 ⟨rfl, hU5⟩
  have HA5 := hid (HA4.out.up hU5)
  have HU5 := hid (HU4.out.trans hU5)
  clear hU5 c0 c1 c2 c3 c4 c5 HA4
  obtain ⟨⟨c0, c1, c2⟩, c3, c4, c5⟩ := HA5.out
  by_cases hs3 : ws.all (exB Q) = true
  case neg =>
    have hs' : ws.all (exB Q) = false := by simpa using hs3
    rw [hs']
    clear hs3 hs'
    go_wp2_with fail
    refine (awake15 _ (HT.out.up HU5.out)).mono ?_
    rintro e wz ⟨rfl, hUz⟩
    go_wp2
    go_ret
    exact ⟨rfl, HU5.out.trans hUz⟩
  have HS3 := hid (List.all_eq_true.1 hs3)
  rw [hs3]
  clear hs3
  obtain ⟨o, ho⟩ : ∃ o, w.heap.size = o := ⟨_, rfl⟩
  rw [ho] at HA5
  rw [ho]
  have HOo := hid ho
  have hoS : o < w5.heap.size := by
    have := cell_lt c0
    rw [ho] at this
    exact this
  obtain ⟨B5, hB5⟩ : ∃ B, w5.heap.size = B := ⟨_, rfl⟩
  have HB5 := hid hB5
  rw [hB5] at hoS
  clear ho hB5 c0 c1 c2 c3 c4 c5
  obtain ⟨⟨c0, c1, c2⟩, c3, c4, c5⟩ := HA5.out
  go_wp2_with fail
  clear c0 c1 c2 c3 c4 c5
  go_loopw [11, 12, 13, 70] (fun vl vm vr vi wr => ∃ (i : Nat) (M R : Int), i ≤ n ∧ vi = .int .i64 i ∧ vm = .int .i64 M ∧ vr = .int .i64 R ∧ Hid (exB Q M = true) ∧ Hid (exB Q R = true) ∧ Hid (pfold P Q 1 (comL P Q G C ms rs i) (ws.take i) = comV P Q G C M R) ∧ Hid (OwnI wr B5 vl (comL P Q G C ms rs i)) ∧ Hid (Up w5 wr)) (fun _ _ _ vi _ => n - (intOf vi).toNat)
  case atStart =>
    refine ⟨0, 0, 0, by omega, rfl, rfl, rfl, hid (exB_iff.2 ⟨by omega, by omega⟩), hid (exB_iff.2 ⟨by omega, by omega⟩), hid ?_, hid ⟨by simp [comL], .inl ⟨rfl, rfl⟩⟩, hid (Up.refl w5)⟩
    show pfold P Q 1 [] [] = _
    unfold comV
    rw [gpw_zero (by omega), gpw_zero (by omega)]
    show (1 : Int) = 1 * 1 % P
    rw [Int.mul_one, Int.emod_eq_of_lt (by omega) (by omega)]
  case round =>
    obtain ⟨i, M, R, hin, rfl, rfl, rfl, HMe, HRe, HF, HO, HU⟩ := hrel
    have HAr := hid (HA5.out.up HU.out)
    obtain ⟨M0, M1⟩ := exB_iff.1 HMe.out
    obtain ⟨R0, R1⟩ := exB_iff.1 HRe.out
    by_cases hl : i < n
    · have hl1 : i < ms.length := by rw [HN.out]; exact hl
      have hl2 : i < rs.length := by rw [HN2.out]; exact hl
      have hl3 : i < ws.length := by rw [HN3.out]; exact hl
      obtain ⟨b1, o1, rfl, k1⟩ := ints_cell HC1.out HU5.out hl1
      obtain ⟨b2, o2, rfl, k2⟩ := ints_cell HC2.out HU5.out hl2
      obtain ⟨b3, o3, rfl, k3⟩ := ints_cell HC3.out HU5.out hl3
      have hm := HS1.out _ (getD_mem hl1)
      have hr := HS2.out _ (getD_mem hl2)
      have hw := HS3.out _ (getD_mem hl3)
      have HW := hid (weigh (ms := ms) (rs := rs) Hb.out hl3 HF.out)
      have HLs := hid (comL_succ P Q G C ms rs i)
      clear hl1 hl2 hl3 HF
      generalize ms.getD i 0 = x at *
      generalize rs.getD i 0 = y at *
      generalize ws.getD i 0 = z at *
      obtain ⟨x0, x1⟩ := exB_iff.1 hm
      obtain ⟨y0, y1⟩ := exB_iff.1 hr
      obtain ⟨z0, z1⟩ := exB_iff.1 hw
      have HC : Hid (∀ w', Tab w' → Calls Tryd.prog 62 #[bas P Q G A B C, .int .i64 x, .int .i64 y] w' fun e w'' => e = .returned (.tuple #[.int .i64 (comV P Q G C x y), .int .i64 0]) ∧ Up w' w'') := hid (fun w' hT => by
        have h := Commit_any P Q G A B C x y w' hP hQ hT
        rw [(com_good Hb.out hm hr).2, (com_good Hb.out hm hr).1] at h
        exact h)
      obtain ⟨K, hK⟩ : ∃ K, comV P Q G C x y = K := ⟨_, rfl⟩
      rw [hK] at HC HLs
      have HM1 := hid (fun w' => rMul_ok x z Q w' x0 x1 z0 z1 (by omega))
      have HM2 := hid (fun w' => rMul_ok y z Q w' y0 y1 z0 z1 (by omega))
      have p0 := Int.emod_nonneg (x * z) (show Q ≠ 0 by omega)
      have p1 := Int.emod_lt_of_pos (x * z) (show 0 < Q by omega)
      have p2 := Int.emod_nonneg (y * z) (show Q ≠ 0 by omega)
      have p3 := Int.emod_lt_of_pos (y * z) (show 0 < Q by omega)
      generalize x * z % Q = xz at *
      generalize y * z % Q = yz at *
      have HD1 := hid (fun w' => rReduce_ok (M + xz) Q w' (by omega) (by omega) (by omega) (by omega))
      have HD2 := hid (fun w' => rReduce_ok (R + yz) Q w' (by omega) (by omega) (by omega) (by omega))
      have HMn := hid (ex_mod (Q := Q) (x := M + xz) (by omega))
      have HRn := hid (ex_mod (Q := Q) (x := R + yz) (by omega))
      have T1 := hid (show IntKind.i64.wrap (M + xz) = M + xz from IntWalk.i64_in _ (by omega))
      have T2 := hid (show IntKind.i64.wrap (R + yz) = R + yz from IntWalk.i64_in _ (by omega))
      generalize (M + xz) % Q = Mn at *
      generalize (R + yz) % Q = Rn at *
      clear hm hr hw hK
      go_wp2_with fail
      obtain ⟨f0, f1, f2, f3, f4, f5⟩ := HAr.out.from
      have f6 := cellF (cellUp HU.out k1)
      have f7 := cellF (cellUp HU.out k2)
      refine wp_region_up (by kernel_rfl) (by kernel_rfl) ?_
      repeat (go_big_quiet_step ((first
        | (go_at_call 62; exact Calls.up_of (HC.out _ (HT.out.up (HU5.out.trans (HU.out.trans (UpFrom.up _)))))))))
      refine wpQuiet_nil ?_
      rintro _ ⟨u, rfl⟩
      have HU6 := hid (HU.out.trans u.up)
      have HO6 := hid (HO.out.up u.up)
      have HUr := hid u.up
      obtain ⟨w6, hw6⟩ : ∃ w6, u.w' = w6 := ⟨_, rfl⟩
      rw [hw6] at HU6 HO6 HUr
      rw [hw6]
      clear f0 f1 f2 f3 f4 f5 f6 f7 HO hw6
      have hown := HO6.out.row (comL_len P Q G C ms rs i)
      have hsz : B5 ≤ w6.heap.size := by have := HU6.out.size; rw [HB5.out] at this; exact this
      go_wp2_with (at_builtin; refine wpList_append_own _ rfl _ _ 36 rfl B5 3 i0 (.int .i64 0) 1 8 Tryd.underlying36 hi hz0 hz1 hz2 rfl (by decide) _ _ _ rfl (hown.alloc _) ⟨w6.heap.size, 0, none⟩ 1 1 [.int .i64 K] rfl rfl ?c1 ?c2 ?c3 ?c4 ?c5 ?_)
      case c1 => go_simp
      case c2 => intro y hy; simp at hy; subst hy; rfl
      case c3 => unfold maxLen; omega
      case c4 => omega
      case c5 => simp; omega
      intro v' w7 hown' hgrow _
      obtain ⟨hO7, hU7, hB7⟩ := appended (comL_len P Q G C ms rs i) HO6.out hown' hgrow HU6.out (by rw [HB5.out]; omega) hsz
      rw [← HLs.out] at hO7
      have HO7 := hid hO7
      have HU7 := hid hU7
      clear hO7 hU7 hB7 hown' hgrow hown
      go_wp2_with fail
      have f6 := cellF (cellUp HU7.out k1)
      have f7 := cellF (cellUp HU7.out k3)
      have t1 := T1.out
      refine wp_region_up (by kernel_rfl) (by kernel_rfl) ?_
      repeat (go_big_quiet_step ((first
        | (go_at_call 70; exact Calls.up_same (HM1.out _))
        | (go_at_call 69; exact Calls.up_same (HD1.out _)))))
      refine wpQuiet_nil ?_
      rintro _ ⟨u8, rfl⟩
      have HU8 := hid (HU7.out.trans u8.up)
      have HO8 := hid (HO7.out.up u8.up)
      obtain ⟨w8, hw8⟩ : ∃ w8, u8.w' = w8 := ⟨_, rfl⟩
      rw [hw8] at HU8 HO8
      rw [hw8]
      clear f6 f7 t1 HO7 HU7 hw8
      go_wp2_with fail
      have f6 := cellF (cellUp HU8.out k2)
      have f7 := cellF (cellUp HU8.out k3)
      have t2 := T2.out
      refine wp_region_up (by kernel_rfl) (by kernel_rfl) ?_
      repeat (go_big_quiet_step ((first
        | (go_at_call 70; exact Calls.up_same (HM2.out _))
        | (go_at_call 69; exact Calls.up_same (HD2.out _)))))
      refine wpQuiet_nil ?_
      rintro _ ⟨u9, rfl⟩
      have HU9 := hid (HU8.out.trans u9.up)
      have HO9 := hid (HO8.out.up u9.up)
      clear f6 f7 t2
      go_wp2_with fail
      go_roundw
      case rel => exact ⟨i + 1, _, _, by omega, by go_num, rfl, rfl, HMn, HRn, HW, HO9, HU9⟩
      case measure => simp [intOf]; omega
    · obtain rfl : i = n := by omega
      have HL := hid HO.out.ints
      have HRm := hid HO.out.room
      have HUw := hid (HU5.out.trans HU.out)
      have hcl : ∀ x ∈ comL P Q G C ms rs i, elB P Q x = true := by
        intro x hx
        obtain ⟨j, _, rfl⟩ := List.mem_map.1 hx
        exact com_el Hb.out
      have hs0 : sumE P Q G A B C (comL P Q G C ms rs i) ws = 0 := by
        rw [sumE, if_pos ⟨Hb.out, by rw [comL_len, HN3.out], by rw [comL_len]; omega⟩, if_pos ⟨List.all_eq_true.2 HS3.out, List.all_eq_true.2 hcl⟩]
      have hsv : sumV P Q G A B C (comL P Q G C ms rs i) ws = comV P Q G C M R := by
        rw [sumV, if_pos hs0, ← HF.out, List.take_of_length_le (by rw [HN3.out]; omega)]
      obtain ⟨K, hK⟩ : ∃ K, comV P Q G C M R = K := ⟨_, rfl⟩
      have HSu : Hid (∀ w' u, Tab w' → IntsAt w' u (comL P Q G C ms rs i) → Room u → IntsAt w' (.slice a3 i cp3) ws → Calls Tryd.prog 71 #[bas P Q G A B C, u, .slice a3 i cp3] w' fun e w'' => e = .returned (.tuple #[.int .i64 K, .int .i64 0]) ∧ Up w' w'') := hid (fun w' u hT q1 q2 q3 => by
        have h := Sum_any P Q G A B C u _ _ ws w' hP hQ hT q1 q3 q2 HR3.out
        rw [hs0, hsv, hK] at h
        exact h)
      have HOp : Hid (∀ w', Tab w' → Calls Tryd.prog 64 #[bas P Q G A B C, .int .i64 K, .int .i64 M, .int .i64 R] w' fun e w'' => e = .returned (.bool true) ∧ Up w' w'') := hid (fun w' hT => by
        have h := Open_any P Q G A B C K M R w' hP hQ hT
        rw [(com_good Hb.out HMe.out HRe.out).1, (com_good Hb.out HMe.out HRe.out).2, hK, show ((0 : Int) == 0 && K == K) = true by simp] at h
        exact h)
      obtain ⟨⟨c0, c1, c2⟩, c3, c4, c5⟩ := HAr.out
      clear hcl hs0 hsv hK HF HO
      go_wp2_with fail
      refine (HSu.out _ _ (HT.out.up HUw.out) HL.out HRm.out (HI3.out.up HUw.out)).mono ?_
      rintro e w6 ⟨rfl, hU6⟩
      have HA6 := hid (HAr.out.up hU6)
      have HU6 := hid (HUw.out.trans hU6)
      clear hU6 c0 c1 c2 c3 c4 c5
      obtain ⟨⟨c0, c1, c2⟩, c3, c4, c5⟩ := HA6.out
      go_wp2_with fail
      refine (HOp.out _ (HT.out.up HU6.out)).mono ?_
      rintro e w7 ⟨rfl, hU7⟩
      go_wp2
      go_ret
      exact ⟨rfl, HU6.out.trans hU7⟩
end Go.Proofs.YtldodbffdegmiaaDoor
