/- Commitments add up: the plain laws; lists of scalars and elements in the reference. -/
import Derived.Test.YtldodbffdegmiaaDoorPedD
namespace Go.Proofs.YtldodbffdegmiaaDoor
open Go.RowKit Go.Sp
set_option maxHeartbeats 2000000
set_option maxRecDepth 20000

theorem com_add {P Q G A B C m r n s : Int} (hb : bvB P Q G A B C = true) : comV P Q G C m r * comV P Q G C n s % P = comV P Q G C ((m + n) % Q) ((r + s) % Q) := by
  obtain ⟨hg, _, _, _, hc⟩ := bv_iff.1 hb
  have g := gv_iff.1 hg
  have g2 := g.P4
  have g3 := g.Q3
  have g5 := g.G2
  have hG : elB P Q G = true := el_iff.2 ⟨by omega, g.GP, g.GQ⟩
  unfold comV
  rw [mmul4, gpw_add (by omega) (by omega) hG, gpw_add (by omega) (by omega) hc, gpw_base_mod (emod_self (m + n) Q), gpw_base_mod (emod_self (r + s) Q)]

theorem com_pow {P Q G A B C m r k : Int} (hb : bvB P Q G A B C = true) : gpw P Q (comV P Q G C m r) k = comV P Q G C (m * k % Q) (r * k % Q) := by
  obtain ⟨hg, _, _, _, hc⟩ := bv_iff.1 hb
  have g := gv_iff.1 hg
  have g2 := g.P4
  have g3 := g.Q3
  have g5 := g.G2
  have hG : elB P Q G = true := el_iff.2 ⟨by omega, g.GP, g.GQ⟩
  unfold comV
  rw [gpw_prod, gpw_mul (by omega) (by omega) hG, gpw_mul (by omega) (by omega) hc, gpw_base_mod (emod_self (m * k) Q), gpw_base_mod (emod_self (r * k) Q)]

theorem com_good {P Q G A B C m r : Int} (hb : bvB P Q G A B C = true) (hm : exB Q m = true) (hr : exB Q r = true) : givE P Q G A B C [m, r] [] = 0 ∧ comR P Q G A B C m r = comV P Q G C m r := by
  have h : givE P Q G A B C [m, r] [] = 0 := giv_zero.2 ⟨hb, by simp [hm, hr], by simp⟩
  exact ⟨h, by rw [comR, if_pos h]⟩

theorem ex_mod {Q x : Int} (hQ : 1 ≤ Q) : exB Q (x % Q) = true := exB_iff.2 ⟨Int.emod_nonneg _ (by omega), Int.emod_lt_of_pos _ (by omega)⟩

theorem rScalars_any (P Q G : Int) (v : Value) (xs : List Int) (w : World) (hv : IntsAt w v xs) :
    Calls Tryd.prog 68 #[grp P Q G, v] w fun e w' => e = .returned (.bool (xs.all (exB Q))) ∧ Up w w' := by
  obtain ⟨l1, a1, cp1, rfl, hc1⟩ := hv
  have HC1 := hid hc1
  obtain ⟨X, hX⟩ : ∃ X, xs.all (exB Q) = X := ⟨_, rfl⟩
  have HX := hid hX
  obtain ⟨n, hn⟩ : ∃ n, xs.length = n := ⟨_, rfl⟩
  have HN := hid hn
  rw [hX]
  rw [hn] at l1
  rw [hn]
  have HBd : Hid (∀ i, i < n → (exB Q) (xs.getD i 0) = false → X = false) := hid (fun i hi h => by rw [← HX.out]; exact not_all (by rw [HN.out]; exact hi) h)
  clear hc1 hX hn
  go_enter Tryd.func68, Tryd.ntmps68
  go_wp2_with fail
  have HG0 := hid (box_reads (w := w) (P := P) (Q := Q) (G := G) rfl (Up.refl _))
  have HU0 := hid ((Up.refl w).alloc (.cells #[.int .i64 P, .int .i64 Q, .int .i64 G] 23))
  obtain ⟨o, ho⟩ : ∃ o, w.heap.size = o := ⟨_, rfl⟩
  rw [ho] at HG0
  rw [ho]
  clear ho
  go_loopw [5] (fun vi wr => ∃ i : Nat, i ≤ n ∧ vi = .int .i64 i ∧ Hid (∀ j, j < i → (exB Q) (xs.getD j 0) = true) ∧ Hid (Up w wr) ∧ Hid (GrpAt wr o P Q G)) (fun vi _ => n - (intOf vi).toNat)
  case atStart => exact ⟨0, by omega, rfl, hid (fun j hj => by omega), HU0, HG0⟩
  case round =>
    obtain ⟨i, hi, rfl, HG, HU, HGr⟩ := hrel
    obtain ⟨c0, c1, c2⟩ := HGr.out
    by_cases hl : i < n
    · have hl1 : i < xs.length := by rw [HN.out]; exact hl
      obtain ⟨b1, o1, rfl, k1⟩ := ints_cell HC1.out HU.out hl1
      have HBi := hid (HBd.out i hl)
      have HS : Hid ((exB Q) (xs.getD i 0) = true → ∀ j, j < i + 1 → (exB Q) (xs.getD j 0) = true) := hid (fun h j hj => by
        rcases Nat.lt_or_ge j i with h3 | h3
        · exact HG.out j h3
        · obtain rfl : j = i := by omega
          exact h)
      clear hl1 HG
      generalize xs.getD i 0 = x at *
      have HM := hid (fun w' => rScalar_any P Q G x w')
      have f0 := cellF c0
      have f1 := cellF c1
      have f2 := cellF c2
      have f3 := cellF k1
      by_cases hx : (exB Q) x = true
      · have Hx := hid hx
        rw [hx] at HM
        clear hx
        go_wp2_with fail
        refine wp_region_up (by kernel_rfl) (by kernel_rfl) ?_
        repeat (go_big_quiet_step ((first
          | (go_at_call 66; exact Calls.up_of (HM.out _)))))
        refine wpQuiet_nil ?_
        rintro _ ⟨p, rfl⟩
        have HU3 := hid (HU.out.trans p.up)
        have HG3 := hid (HGr.out.up p.up)
        clear f0 f1 f2 f3
        go_wp2_with fail
        go_roundw
        case rel => exact ⟨i + 1, by omega, by go_num, hid (HS.out Hx.out), HU3, HG3⟩
        case measure => simp [intOf]; omega
      · have hx' : (exB Q) x = false := by simpa using hx
        obtain rfl := HBi.out hx'
        rw [hx'] at HM
        clear hx hx'
        go_wp2_with fail
        refine wp_region_up (by kernel_rfl) (by kernel_rfl) ?_
        repeat (go_big_quiet_step ((first
          | (go_at_call 66; exact Calls.up_of (HM.out _)))))
        refine wpQuiet_nil ?_
        rintro _ ⟨p, rfl⟩
        go_wp2
        go_ret
        exact ⟨rfl, HU.out.trans p.up⟩
    · obtain rfl : i = n := by omega
      have hX : X = true := by rw [← HX.out]; exact all_of (by rw [HN.out]; exact HG.out)
      subst hX
      go_wp2
      go_ret
      exact ⟨rfl, HU.out⟩

theorem rMembers_any (P Q G : Int) (v : Value) (xs : List Int) (w : World) (g1 : P < 2305843009213693952) (g3 : 0 ≤ Q) (hQ : Q ≤ 9223372036854775807) (hv : IntsAt w v xs) :
    Calls Tryd.prog 74 #[grp P Q G, v] w fun e w' => e = .returned (.bool (xs.all (elB P Q))) ∧ Up w w' := by
  obtain ⟨l1, a1, cp1, rfl, hc1⟩ := hv
  have HC1 := hid hc1
  obtain ⟨X, hX⟩ : ∃ X, xs.all (elB P Q) = X := ⟨_, rfl⟩
  have HX := hid hX
  obtain ⟨n, hn⟩ : ∃ n, xs.length = n := ⟨_, rfl⟩
  have HN := hid hn
  rw [hX]
  rw [hn] at l1
  rw [hn]
  have HBd : Hid (∀ i, i < n → (elB P Q) (xs.getD i 0) = false → X = false) := hid (fun i hi h => by rw [← HX.out]; exact not_all (by rw [HN.out]; exact hi) h)
  clear hc1 hX hn
  go_enter Tryd.func74, Tryd.ntmps74
  go_wp2_with fail
  have HG0 := hid (box_reads (w := w) (P := P) (Q := Q) (G := G) rfl (Up.refl _))
  have HU0 := hid ((Up.refl w).alloc (.cells #[.int .i64 P, .int .i64 Q, .int .i64 G] 23))
  obtain ⟨o, ho⟩ : ∃ o, w.heap.size = o := ⟨_, rfl⟩
  rw [ho] at HG0
  rw [ho]
  clear ho
  go_loopw [5] (fun vi wr => ∃ i : Nat, i ≤ n ∧ vi = .int .i64 i ∧ Hid (∀ j, j < i → (elB P Q) (xs.getD j 0) = true) ∧ Hid (Up w wr) ∧ Hid (GrpAt wr o P Q G)) (fun vi _ => n - (intOf vi).toNat)
  case atStart => exact ⟨0, by omega, rfl, hid (fun j hj => by omega), HU0, HG0⟩
  case round =>
    obtain ⟨i, hi, rfl, HG, HU, HGr⟩ := hrel
    obtain ⟨c0, c1, c2⟩ := HGr.out
    by_cases hl : i < n
    · have hl1 : i < xs.length := by rw [HN.out]; exact hl
      obtain ⟨b1, o1, rfl, k1⟩ := ints_cell HC1.out HU.out hl1
      have HBi := hid (HBd.out i hl)
      have HS : Hid ((elB P Q) (xs.getD i 0) = true → ∀ j, j < i + 1 → (elB P Q) (xs.getD j 0) = true) := hid (fun h j hj => by
        rcases Nat.lt_or_ge j i with h3 | h3
        · exact HG.out j h3
        · obtain rfl : j = i := by omega
          exact h)
      clear hl1 HG
      generalize xs.getD i 0 = x at *
      have HM := hid (fun w' => rMember_any P Q G x w' g1 g3 hQ)
      have f0 := cellF c0
      have f1 := cellF c1
      have f2 := cellF c2
      have f3 := cellF k1
      by_cases hx : (elB P Q) x = true
      · have Hx := hid hx
        rw [hx] at HM
        clear hx
        go_wp2_with fail
        refine wp_region_up (by kernel_rfl) (by kernel_rfl) ?_
        repeat (go_big_quiet_step ((first
          | (go_at_call 55; exact Calls.up_of (HM.out _)))))
        refine wpQuiet_nil ?_
        rintro _ ⟨p, rfl⟩
        have HU3 := hid (HU.out.trans p.up)
        have HG3 := hid (HGr.out.up p.up)
        clear f0 f1 f2 f3
        go_wp2_with fail
        go_roundw
        case rel => exact ⟨i + 1, by omega, by go_num, hid (HS.out Hx.out), HU3, HG3⟩
        case measure => simp [intOf]; omega
      · have hx' : (elB P Q) x = false := by simpa using hx
        obtain rfl := HBi.out hx'
        rw [hx'] at HM
        clear hx hx'
        go_wp2_with fail
        refine wp_region_up (by kernel_rfl) (by kernel_rfl) ?_
        repeat (go_big_quiet_step ((first
          | (go_at_call 55; exact Calls.up_of (HM.out _)))))
        refine wpQuiet_nil ?_
        rintro _ ⟨p, rfl⟩
        go_wp2
        go_ret
        exact ⟨rfl, HU.out.trans p.up⟩
    · obtain rfl : i = n := by omega
      have hX : X = true := by rw [← HX.out]; exact all_of (by rw [HN.out]; exact HG.out)
      subst hX
      go_wp2
      go_ret
      exact ⟨rfl, HU.out⟩
end Go.Proofs.YtldodbffdegmiaaDoor
