/- GroupOrder: the walk. -/
import Derived.Test.YtldodbffdegmiaaDoorLogB
import Derived.Test.YtldodbffdegmiaaDoorLawTenD
namespace Go.Proofs.YtldodbffdegmiaaDoor
open Go.RowKit Go.Sp
set_option maxHeartbeats 2000000
set_option maxRecDepth 20000

theorem OwnI.row {w : World} {base n : Nat} {v : Value} {xs : List Int} (h : OwnI w base v xs) (hl : xs.length = n) : w.ownsRow base 3 1 v n (xs.map (Value.int .i64)) := by
  subst hl
  exact h

theorem powList_succ (P a : Int) (i : Nat) : powList P a (i + 1) = powList P a i ++ [pw a i P] := by simp [powList, List.range_succ]
theorem powList_len (P a : Int) (i : Nat) : (powList P a i).length = i := by simp [powList]
theorem gpw_nat {P Q a : Int} {i : Nat} (h : (i : Int) < Q) : gpw P Q a i = pw a i P := by
  unfold gpw
  rw [Int.emod_eq_of_lt (by omega) h, Int.toNat_natCast]
theorem powList_one {P : Int} (hP : 2 ≤ P) (q : Nat) : isort (powList P 1 q) = List.replicate q 1 := by
  have : powList P 1 q = List.replicate q 1 := by
    apply List.ext_getElem
    · simp [powList]
    · intro j h1 h2
      simp only [powList, List.getElem_map, List.getElem_range, List.getElem_replicate]
      rw [pw_one_base, Int.emod_eq_of_lt (by omega) (by omega)]
  rw [this]
  exact isort_eq (by simp [List.pairwise_replicate]) (List.Perm.refl _)

theorem GroupOrder_walk (P Q G a : Int) (w : World) (hP : -9223372036854775808 ≤ P) (hQ : Q ≤ 9223372036854775807) (hT : Tab w) :
    Calls Tryd.prog 8 #[grp P Q G, .int .i64 a] w fun e w' => e = .returned (.bool true) ∧ Up w w' := by
  have HT := hid hT
  clear hT
  obtain ⟨i0, hi, hz0, hz1, hz2⟩ := info_parts infoInt
  go_enter Tryd.func8, Tryd.ntmps8
  go_wp2_with fail
  refine (awake10 _ (HT.out.up ((Up.refl w).alloc _))).mono ?_
  rintro e w1 ⟨rfl, hU1⟩
  have HG := hid (box_reads rfl hU1)
  have HU1 := hid (((Up.refl w).alloc _).trans hU1)
  have HT1 := hid (HT.out.up HU1.out)
  clear hU1
  obtain ⟨c0, c1, c2⟩ := HG.out
  go_wp2_with fail
  refine (fault_any P Q G _ [a] _ hP hQ (ints_one (by go_simp))).mono ?_
  rintro e w2 ⟨rfl, hU2⟩
  have HV2 := hid (((Up.refl w1).alloc _).trans hU2)
  clear hU2
  obtain ⟨c0, c1, c2⟩ := HG.out.up HV2.out
  by_cases hc : chkI P Q G [a] = 0
  case neg =>
    have hb : (chkI P Q G [a] != 0) = true := by simpa using hc
    generalize chkI P Q G [a] = c at *
    clear hc
    go_wp2
    go_ret
    exact ⟨rfl, HU1.out.trans HV2.out⟩
  obtain ⟨hg, ha⟩ := chk_cases hc
  have ha := ha a (by simp)
  rw [hc]
  have g := gv_iff.1 hg
  have g1 := g.P61
  have g2 := g.P4
  have g3 := g.Q3
  have g4 := g.QP
  have hpne : P ≠ 1048576 := fun e => by
    have h1 := g.pP
    rw [e, show isP 1048576 = false by decide +kernel] at h1
    cases h1
  have Hne := hid hpne
  have Hg := hid hg
  have Ha := hid ha
  obtain ⟨a0, a1, _⟩ := el_iff.1 ha
  clear hc hg g hpne ha
  by_cases hq : 300 < Q
  case pos =>
    have hd : decide (300 < Q) = true := by simpa using hq
    go_wp2
    go_ret
    exact ⟨rfl, HU1.out.trans HV2.out⟩
  have hd : decide (300 < Q) = false := by simpa using hq
  by_cases hp : 1048576 < P
  case pos =>
    have hd : decide (1048576 < P) = true := by simpa using hp
    go_wp2
    go_ret
    exact ⟨rfl, HU1.out.trans HV2.out⟩
  have hd3 : decide (1048576 < P) = false := by simpa using hp
  have hPs : P < 1048576 := by have := Hne.out; omega
  go_wp2_with fail
  refine (Elements_ok P Q G _ (HT1.out.up HV2.out) Hg.out (by omega)).mono ?_
  rintro e w3 ⟨v, rfl, hO, hU3⟩
  obtain ⟨p, cap, hv⟩ := hO.shape
  have hlen : (isort (powList P G Q.toNat)).length = Q.toNat := by rw [isort_length]; simp [powList]
  rw [hlen] at hv
  obtain ⟨q, rfl⟩ : ∃ q : Nat, Q = q := ⟨Q.toNat, by omega⟩
  rw [Int.toNat_natCast] at hv
  subst hv
  have HI3 := hid hO.ints
  have HV3 := hid (HV2.out.trans hU3)
  clear hO hU3 hlen
  obtain ⟨c0, c1, c2⟩ := HG.out.up HV3.out
  go_wp2_with fail
  refine (sorted_ok _ _ _ HI3.out (isort_sorted _)).mono ?_
  rintro e w5 ⟨rfl, hU5⟩
  have HV5 := hid (HV3.out.trans hU5)
  have HI5 := hid (HI3.out.up hU5)
  clear hU5 HI3
  have HT5 := hid (HT1.out.up HV5.out)
  have HG5 := hid (HG.out.up HV5.out)
  have HB5 := hid (HU1.out.trans HV5.out)
  clear HG
  obtain ⟨b, hb⟩ : ∃ b, w.heap.size = b := ⟨_, rfl⟩
  rw [hb] at HG5
  rw [hb]
  obtain ⟨B, hB⟩ : ∃ B, w5.heap.size = B := ⟨_, rfl⟩
  have HB := hid hB
  have HBb := hid hb
  obtain ⟨c0, c1, c2⟩ := HG5.out
  have hbB : b < B := by have := cell_lt c0; omega
  clear hB hb
  by_cases ha1 : a = 1
  · obtain rfl : a = 1 := ha1
    go_wp2_with fail
    go_loopw [7, 51] (fun vl vi wr => ∃ i : Nat, i ≤ q ∧ vi = .int .i64 i ∧ OwnI wr B vl (powList P 1 i) ∧ Up w5 wr) (fun _ vi _ => q - (intOf vi).toNat)
    case atStart => exact ⟨0, by omega, rfl, ⟨by simp [powList], .inl ⟨rfl, rfl⟩⟩, Up.refl w5⟩
    case round =>
      obtain ⟨i, hiq, rfl, hown, hU⟩ := hrel
      have HU := hid hU
      have HO := hid hown
      clear hown hU
      obtain ⟨c0, c1, c2⟩ := HG5.out.up HU.out
      by_cases hl : i < q
      · have hl1 : (i : Int) < (q : Int) := by omega
        go_wp2_with fail
        refine (gPower_ok P q G 1 i _ hQ (HT5.out.up HU.out) Hg.out Ha.out (by omega) (by omega)).mono ?_
        rintro e w6 ⟨rfl, hU6⟩
        rw [gpw_nat hl1]
        have HU6 := hid (HU.out.trans hU6)
        have HO6 := hid (HO.out.up hU6)
        clear hU6 HO
        obtain ⟨c0, c1, c2⟩ := HG5.out.up HU6.out
        have hsz : B ≤ w6.heap.size := by have := HU6.out.size; rw [HB.out] at this; exact this
        have hown := HO6.out.row (powList_len P 1 i)
        have HS := hid (powList_succ P 1 i)
        have HLg := hid (fun w' (hT' : Tab w') => (by rw [pw_one_base, Int.emod_eq_of_lt (show (0 : Int) ≤ 1 by omega) (by omega)]; exact Log_one P q G w' hT' Hg.out (by omega) : Calls Tryd.prog 41 #[grp P q G, .int .i64 1, .int .i64 (pw 1 i P)] w' fun e w'' => e = .returned (.tuple #[.int .i64 0, .int .i64 0]) ∧ Up w' w''))
        have x1 := pw_lt 1 i (show 0 < P by omega)
        have x0 := pw_nonneg 1 i (show 0 < P by omega)
        obtain ⟨x, hx⟩ : ∃ x, pw 1 i P = x := ⟨_, rfl⟩
        rw [hx] at HS HLg x0 x1
        rw [hx]
        clear hx
        go_wp2_with (at_builtin; refine wpList_append_own _ rfl _ _ 36 rfl B 3 i0 (.int .i64 0) 1 8 Tryd.underlying36 hi hz0 hz1 hz2 rfl (by decide) _ _ _ rfl (hown.alloc _) ⟨w6.heap.size, 0, none⟩ 1 1 [.int .i64 x] rfl rfl ?c1 ?c2 ?c3 ?c4 ?c5 ?_)
        case c1 => go_simp
        case c2 => intro y hy; simp at hy; subst hy; rfl
        case c3 => unfold maxLen; omega
        case c4 => omega
        case c5 => simp; omega
        intro v' w7 hown' hgrow _
        obtain ⟨hO7, hU7, hB7⟩ := appended (powList_len P 1 i) HO6.out hown' hgrow HU6.out (by rw [HB.out]; omega) hsz
        rw [← HS.out] at hO7
        have HO7 := hid hO7
        have HU7 := hid hU7
        clear hO7 hU7 hB7 hown' hgrow hown
        obtain ⟨c0, c1, c2⟩ := HG5.out.up HU7.out
        go_wp2_with fail
        refine (HLg.out _ (HT5.out.up HU7.out)).mono ?_
        rintro e w8 ⟨rfl, hU8⟩
        have HU8 := hid (HU7.out.trans hU8)
        have HO8 := hid (HO7.out.up hU8)
        clear hU8 HO7
        go_wp2_with fail
        go_roundw
        case rel => exact ⟨i + 1, by omega, by go_num, HO8.out, HU8.out⟩
        case measure => simp [intOf]; omega
      · obtain rfl : i = q := by omega
        go_wp2_with fail
        refine (sort_own HO.out (by rw [powList_len]; omega)).mono ?_
        rintro e w6 ⟨rfl, hO6, hg6⟩
        have HU6 := hid (up_grown HU.out hg6 (fun k hk => by have := HO.out.block k hk; have := HB.out; omega))
        clear hg6
        rw [powList_one (by omega)] at hO6
        obtain ⟨_, ad, cp, rfl, hcell⟩ := hO6.ints
        rw [List.length_replicate] at *
        obtain ⟨bl, off, rfl, hc⟩ := hcell (by intro h; have := congrArg List.length h; simp at this; omega)
        have k0 := hc 0 (by omega)
        have k1 := hc (i - 1) (by omega)
        have e0 : (List.replicate i (1 : Int)).getD 0 0 = 1 := by
          rw [List.getD_eq_getElem?_getD, List.getElem?_replicate, if_pos (by omega)]; rfl
        have e1 : (List.replicate i (1 : Int)).getD (i - 1) 0 = 1 := by
          rw [List.getD_eq_getElem?_getD, List.getElem?_replicate, if_pos (by omega)]; rfl
        rw [e0, Nat.add_zero] at k0
        rw [e1] at k1
        have hi1 : ((i : Int) - 1).toNat = i - 1 := by omega
        clear e0 e1 hc hcell hO6
        go_wp2
        go_ret
        exact ⟨rfl, HB5.out.trans HU6.out⟩
  · have d1 : (a != 1) = true := by simpa using ha1
    have d2 : (a == 1) = false := by simpa using ha1
    go_wp2_with fail
    go_loopw [7, 51] (fun vl vi wr => ∃ i : Nat, i ≤ q ∧ vi = .int .i64 i ∧ OwnI wr B vl (powList P a i) ∧ Up w5 wr) (fun _ vi _ => q - (intOf vi).toNat)
    case atStart => exact ⟨0, by omega, rfl, ⟨by simp [powList], .inl ⟨rfl, rfl⟩⟩, Up.refl w5⟩
    case round =>
      obtain ⟨i, hiq, rfl, hown, hU⟩ := hrel
      have HU := hid hU
      have HO := hid hown
      clear hown hU
      obtain ⟨c0, c1, c2⟩ := HG5.out.up HU.out
      by_cases hl : i < q
      · have hl1 : (i : Int) < (q : Int) := by omega
        go_wp2_with fail
        refine (gPower_ok P q G a i _ hQ (HT5.out.up HU.out) Hg.out Ha.out (by omega) (by omega)).mono ?_
        rintro e w6 ⟨rfl, hU6⟩
        rw [gpw_nat hl1]
        have HU6 := hid (HU.out.trans hU6)
        have HO6 := hid (HO.out.up hU6)
        clear hU6 HO
        obtain ⟨c0, c1, c2⟩ := HG5.out.up HU6.out
        have hsz : B ≤ w6.heap.size := by have := HU6.out.size; rw [HB.out] at this; exact this
        have hown := HO6.out.row (powList_len P a i)
        have HS := hid (powList_succ P a i)
        have HLg := hid (fun w' (hT' : Tab w') => Log_pow P q G a i w' hT' Hg.out (by omega) Ha.out ha1 (by omega))
        have x1 := pw_lt a i (show 0 < P by omega)
        have x0 := pw_nonneg a i (show 0 < P by omega)
        obtain ⟨x, hx⟩ : ∃ x, pw a i P = x := ⟨_, rfl⟩
        rw [hx] at HS HLg x0 x1
        rw [hx]
        clear hx
        go_wp2_with (at_builtin; refine wpList_append_own _ rfl _ _ 36 rfl B 3 i0 (.int .i64 0) 1 8 Tryd.underlying36 hi hz0 hz1 hz2 rfl (by decide) _ _ _ rfl (hown.alloc _) ⟨w6.heap.size, 0, none⟩ 1 1 [.int .i64 x] rfl rfl ?c1 ?c2 ?c3 ?c4 ?c5 ?_)
        case c1 => go_simp
        case c2 => intro y hy; simp at hy; subst hy; rfl
        case c3 => unfold maxLen; omega
        case c4 => omega
        case c5 => simp; omega
        intro v' w7 hown' hgrow _
        obtain ⟨hO7, hU7, hB7⟩ := appended (powList_len P a i) HO6.out hown' hgrow HU6.out (by rw [HB.out]; omega) hsz
        rw [← HS.out] at hO7
        have HO7 := hid hO7
        have HU7 := hid hU7
        clear hO7 hU7 hB7 hown' hgrow hown
        obtain ⟨c0, c1, c2⟩ := HG5.out.up HU7.out
        go_wp2_with fail
        refine (HLg.out _ (HT5.out.up HU7.out)).mono ?_
        rintro e w8 ⟨rfl, hU8⟩
        have HU8 := hid (HU7.out.trans hU8)
        have HO8 := hid (HO7.out.up hU8)
        clear hU8 HO7
        go_wp2_with fail
        go_roundw
        case rel => exact ⟨i + 1, by omega, by go_num, HO8.out, HU8.out⟩
        case measure => simp [intOf]; omega
      · obtain rfl : i = q := by omega
        go_wp2_with fail
        refine (sort_own HO.out (by rw [powList_len]; omega)).mono ?_
        rintro e w6 ⟨rfl, hO6, hg6⟩
        have HU6 := hid (up_grown HU.out hg6 (fun k hk => by have := HO.out.block k hk; have := HB.out; omega))
        clear hg6
        have hE := hO6.ints
        rw [show isort (powList P a i) = isort (powList P G i) by
          have h1 := found_eq Hg.out hPs Ha.out ha1
          have h2 := found_eq Hg.out hPs (gen_el Hg.out).1 (gen_el Hg.out).2
          rw [Int.toNat_natCast] at h1 h2
          rw [h1, h2]] at hE
        have hI := HI5.out.up HU6.out
        have HE := hid hE
        have HI := hid hI
        clear hE hI hO6
        go_wp2_with fail
        refine (equal_any _ _ _ _ _ HE.out HI.out).mono ?_
        rintro e w7 ⟨rfl, hU7⟩
        have HU7 := hid (HU6.out.trans hU7)
        clear hU7
        rw [show (isort (powList P G i) == isort (powList P G (i : Int).toNat)) = true by rw [Int.toNat_natCast]; simp]
        go_wp2
        go_ret
        exact ⟨rfl, HB5.out.trans HU7.out⟩
end Go.Proofs.YtldodbffdegmiaaDoor
