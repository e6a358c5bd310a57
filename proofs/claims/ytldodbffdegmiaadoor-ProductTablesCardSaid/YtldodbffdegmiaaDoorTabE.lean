/- Valid tables; powers by a table. -/
import Derived.Test.YtldodbffdegmiaaDoorTabD
import Derived.Test.YtldodbffdegmiaaDoorQuiet
import Derived.IntWalk
namespace Go.Proofs.YtldodbffdegmiaaDoor
open Go.RowKit Go.Sp
set_option maxHeartbeats 2000000
set_option maxRecDepth 20000

/-- A valid table. -/
def vtB (P Q G b : Int) (L : List Int) : Bool := conB P Q G b && (tabL P (digs Q) b == L)

theorem ValidTable_any (P Q G b : Int) (u : Value) (L : List Int) (w : World) (hP : -9223372036854775808 ≤ P) (hQ : Q ≤ 9223372036854775807) (hT : Tab w) (hu : IntsAt w u L) :
    Calls Tryd.prog 54 #[grp P Q G, tabV b u] w fun e w' => e = .returned (.bool (vtB P Q G b L)) ∧ Up w w' := by
  have HT := hid hT
  have HI := hid hu
  have HB : Hid (vtB P Q G b L = (conB P Q G b && (tabL P (digs Q) b == L))) := hid rfl
  generalize vtB P Q G b L = X at *
  obtain ⟨l1, a1, cp1, rfl, _⟩ := hu
  obtain ⟨n, hn⟩ : ∃ n, L.length = n := ⟨_, rfl⟩
  rw [hn] at HI l1
  rw [hn]
  clear hT hn
  by_cases hg : gvB P Q G = true
  case neg =>
    have hg' : gvB P Q G = false := by simpa using hg
    have hX : X = false := by rw [HB.out]; simp [conB, hg']
    have Hg := hid hg'
    subst hX
    clear hg hg' HB
    go_enter Tryd.func54, Tryd.ntmps54
    go_wp2_with fail
    refine (Table_arg P Q G b _ hP hQ (HT.out.up (((Up.refl w).alloc _).alloc _)) Hg.out).mono ?_
    rintro e w1 ⟨rfl, hU1⟩
    go_wp2
    go_ret
    exact ⟨rfl, ((((Up.refl w).alloc _).alloc _).trans hU1).alloc _⟩
  have Hg := hid hg
  have g := gv_iff.1 hg
  have g2 := g.P4
  have g4 := g.QP
  have g1 := g.P61
  clear g
  by_cases hb : elB P Q b = true
  case neg =>
    have hb' : elB P Q b = false := by simpa using hb
    have hX : X = false := by rw [HB.out]; simp [conB, hb']
    have Hb := hid hb'
    subst hX
    clear hb hb' HB hg
    go_enter Tryd.func54, Tryd.ntmps54
    go_wp2_with fail
    refine (Table_range P Q G b _ (HT.out.up (((Up.refl w).alloc _).alloc _)) Hg.out Hb.out).mono ?_
    rintro e w1 ⟨rfl, hU1⟩
    go_wp2
    go_ret
    exact ⟨rfl, ((((Up.refl w).alloc _).alloc _).trans hU1).alloc _⟩
  have HX : Hid (X = (tabL P (digs Q) b == L)) := hid (by rw [HB.out]; simp [conB, hg, hb])
  have Hb := hid hb
  clear hg hb HB
  go_enter Tryd.func54, Tryd.ntmps54
  go_wp2_with fail
  refine (Table_ok P Q G b _ (HT.out.up (((Up.refl w).alloc _).alloc _)) Hg.out Hb.out).mono ?_
  rintro e w1 ⟨v, rfl, hO, hU1⟩
  have HBx := second_box hU1
  have k0 := HBx.read 0
  have k1 := HBx.read 1
  simp at k0 k1
  have HO := hid hO.ints
  obtain ⟨pv, mv, cv, rfl⟩ := hO.slice
  have HU1 := hid ((((Up.refl w).alloc _).alloc _).trans hU1)
  have hlt := HBx.lt
  clear hO hU1 HBx
  go_wp2_with fail
  refine (equal_any _ _ _ _ _ (HO.out.up ((Up.refl w1).alloc _)) (HI.out.up (HU1.out.alloc _))).mono ?_
  rintro e w2 ⟨rfl, hU2⟩
  rw [← HX.out]
  go_wp2
  go_ret
  exact ⟨rfl, (HU1.out.alloc _).trans hU2⟩

theorem rValidTable_any (P Q G b : Int) (u : Value) (L : List Int) (w : World) (hP : -9223372036854775808 ≤ P) (hQ : Q ≤ 9223372036854775807) (hu : IntsAt w u L) :
    Calls Tryd.prog 52 #[grp P Q G, tabV b u] w fun e w' => e = .returned (.bool (vtB P Q G b L)) ∧ Up w w' := by
  have HB : Hid (vtB P Q G b L = (conB P Q G b && (tabL P (digs Q) b == L))) := hid rfl
  generalize vtB P Q G b L = X at *
  obtain ⟨l1, a1, cp1, rfl, hc1⟩ := hu
  have HC1 := hid hc1
  obtain ⟨n, hn⟩ : ∃ n, L.length = n := ⟨_, rfl⟩
  have HN := hid hn
  rw [hn] at l1
  rw [hn]
  clear hn hc1
  have HCon := hid (fun w' => rContains_any P Q G b w' hP hQ)
  by_cases hc : conB P Q G b = true
  case neg =>
    have hc' : conB P Q G b = false := by simpa using hc
    have hX : X = false := by rw [HB.out, hc']; rfl
    subst hX
    rw [hc'] at HCon
    clear hc hc' HB
    go_enter Tryd.func52, Tryd.ntmps52
    go_wp2_with fail
    obtain ⟨c0, c1, c2⟩ := box_reads (w := w) (P := P) (Q := Q) (G := G) rfl ((Up.refl _).alloc (.cells #[.int .i64 b, .slice a1 n cp1] 58))
    have HBx := second_box (w := w) (o := .cells #[.int .i64 P, .int .i64 Q, .int .i64 G] 23) (t := 58) (cs := #[.int .i64 b, .slice a1 n cp1]) (Up.refl _)
    have k0 := HBx.val (i := 0) (v := .int .i64 b) rfl
    have k1 := HBx.val (i := 1) (v := .slice a1 n cp1) rfl
    have f0 := cellF c0
    have f1 := cellF c1
    have f2 := cellF c2
    have f3 := cellF k0
    have f4 := cellF k1
    clear c0 c1 c2 k0 k1 HBx
    refine wp_region_up (by kernel_rfl) (by kernel_rfl) ?_
    repeat (go_big_quiet_step ((first
      | (go_at_call 26; exact Calls.up_of (HCon.out _)))))
    refine wpQuiet_nil ?_
    rintro _ ⟨p, rfl⟩
    go_wp2
    go_ret
    exact ⟨rfl, (((Up.refl w).alloc _).alloc _).trans p.up⟩
  obtain ⟨hg, hb⟩ : gvB P Q G = true ∧ elB P Q b = true := by simpa [conB] using hc
  have g := gv_iff.1 hg
  have g1 := g.P61
  have g2 := g.P4
  have g3 := g.Q3
  have g4 := g.QP
  have Hg := hid hg
  have Hb := hid hb
  have HX : Hid (X = (tabL P (digs Q) b == L)) := hid (by rw [HB.out, hc]; rfl)
  have HDg := hid (fun w' => rDigits_ok P Q G w' (by omega) (by omega))
  obtain ⟨D, hD⟩ : ∃ D, digs Q = D := ⟨_, rfl⟩
  have hD16 : D ≤ 16 := by rw [← hD]; exact digs_le Q
  have HDD := hid hD
  rw [hD] at HDg HX
  rw [hc] at HCon
  have HTl := hid (tabL_len P D b)
  clear hc hg hb HB g hD
  have hmul : IntKind.i64.wrap (16 * (D : Int)) = 16 * (D : Int) := IntWalk.i64_in _ (by omega)
  by_cases hn : n = 16 * D
  case neg =>
    have hX : X = false := by
      rw [HX.out]
      simp
      intro h
      have := congrArg List.length h
      rw [HTl.out, HN.out] at this
      omega
    subst hX
    have d1 : ((n : Int) != 16 * (D : Int)) = true := by simp; omega
    clear hn
    go_enter Tryd.func52, Tryd.ntmps52
    go_wp2_with fail
    obtain ⟨c0, c1, c2⟩ := box_reads (w := w) (P := P) (Q := Q) (G := G) rfl ((Up.refl _).alloc (.cells #[.int .i64 b, .slice a1 n cp1] 58))
    have HBx := second_box (w := w) (o := .cells #[.int .i64 P, .int .i64 Q, .int .i64 G] 23) (t := 58) (cs := #[.int .i64 b, .slice a1 n cp1]) (Up.refl _)
    have k0 := HBx.val (i := 0) (v := .int .i64 b) rfl
    have k1 := HBx.val (i := 1) (v := .slice a1 n cp1) rfl
    have f0 := cellF c0
    have f1 := cellF c1
    have f2 := cellF c2
    have f3 := cellF k0
    have f4 := cellF k1
    clear c0 c1 c2 k0 k1 HBx
    refine wp_region_up (by kernel_rfl) (by kernel_rfl) ?_
    repeat (go_big_quiet_step ((first
      | (go_at_call 26; exact Calls.up_of (HCon.out _))
      | (go_at_call 100; exact Calls.up_of (HDg.out _)))))
    refine wpQuiet_nil ?_
    rintro _ ⟨p, rfl⟩
    go_wp2
    go_ret
    exact ⟨rfl, (((Up.refl w).alloc _).alloc _).trans p.up⟩
  have HNn := hid hn
  have d1 : ((n : Int) != 16 * (D : Int)) = false := by simp; omega
  have hn16 : n ≤ 256 := by omega
  clear hn
  go_enter Tryd.func52, Tryd.ntmps52
  go_wp2_with fail
  have HGb := hid (box_reads (w := w) (P := P) (Q := Q) (G := G) rfl ((Up.refl _).alloc (.cells #[.int .i64 b, .slice a1 n cp1] 58)))
  have HBx := hid (second_box (w := w) (o := .cells #[.int .i64 P, .int .i64 Q, .int .i64 G] 23) (t := 58) (cs := #[.int .i64 b, .slice a1 n cp1]) (Up.refl _))
  obtain ⟨c0, c1, c2⟩ := HGb.out
  have k0 := HBx.out.val (i := 0) (v := .int .i64 b) rfl
  have k1 := HBx.out.val (i := 1) (v := .slice a1 n cp1) rfl
  have f0 := cellF c0
  have f1 := cellF c1
  have f2 := cellF c2
  have f3 := cellF k0
  have f4 := cellF k1
  clear c0 c1 c2 k0 k1
  refine wp_region_up (by kernel_rfl) (by kernel_rfl) ?_
  repeat (go_big_quiet_step ((first
    | (go_at_call 26; exact Calls.up_of (HCon.out _))
    | (go_at_call 100; exact Calls.up_of (HDg.out _)))))
  refine wpQuiet_nil ?_
  rintro _ ⟨p, rfl⟩
  have HU1 := hid ((((Up.refl w).alloc _).alloc _).trans p.up)
  have HG1 := hid (HGb.out.up p.up)
  have HB1 := hid (HBx.out.up p.up)
  obtain ⟨w1, hw1⟩ : ∃ w1, p.w' = w1 := ⟨_, rfl⟩
  rw [hw1] at HU1 HG1 HB1
  rw [hw1]
  clear f0 f1 f2 f3 f4 hw1 HGb HBx
  obtain ⟨c0, c1, c2⟩ := HG1.out
  have k0 := HB1.out.read 0
  have k1 := HB1.out.read 1
  simp at k0 k1
  go_wp2_with fail
  refine (rTable_ok P Q G b _ Hg.out Hb.out).mono ?_
  rintro e w2 ⟨v, rfl, hO, hU2⟩
  rw [HDD.out] at hO
  have HO := hid hO.ints
  obtain ⟨pv, cv, hv⟩ := hO.shape
  rw [HTl.out, ← HNn.out] at hv
  subst hv
  have HU2 := hid (HU1.out.trans hU2)
  have HB2 := hid (HB1.out.up hU2)
  have hlt := HB2.out.lt
  clear hO hU2 c0 c1 c2 k0 k1
  go_wp2_with fail
  have HW := hid (BoxAt.new w2 58 #[.int .i64 b, .slice pv n cv])
  have HB3 := hid (HB2.out.alloc (.cells #[.int .i64 b, .slice pv n cv] 58))
  have HO3 := hid (HO.out.up ((Up.refl w2).alloc (.cells #[.int .i64 b, .slice pv n cv] 58)))
  have HU3 := hid (HU2.out.alloc (.cells #[.int .i64 b, .slice pv n cv] 58))
  obtain ⟨o, ho⟩ : ∃ o, w.heap.size = o := ⟨_, rfl⟩
  rw [ho] at HB3
  rw [ho]
  obtain ⟨q, hq⟩ : ∃ q, w2.heap.size = q := ⟨_, rfl⟩
  rw [hq] at HW
  rw [hq]
  obtain ⟨w3, hw3⟩ : ∃ w3, w2.alloc (.cells #[.int .i64 b, .slice pv n cv] 58) = w3 := ⟨_, rfl⟩
  rw [hw3] at HW HB3 HO3 HU3
  rw [hw3]
  clear ho hq hw3 hlt
  obtain ⟨_, _, _, hsl, hcO⟩ := HO3.out
  injection hsl with q1 q2 q3
  subst q1
  have HCO := hid hcO
  have HLT := hid q2
  clear hcO q2 q3
  go_loopw [6] (fun vi wr => ∃ i : Nat, i ≤ n ∧ vi = .int .i64 i ∧ Hid (∀ j, j < i → L.getD j 0 = (tabL P D b).getD j 0) ∧ Hid (Up w3 wr)) (fun vi _ => n - (intOf vi).toNat)
  case atStart => exact ⟨0, by omega, rfl, hid (fun j hj => by omega), hid (Up.refl w3)⟩
  case round =>
    obtain ⟨i, hi, rfl, HG, HU⟩ := hrel
    have HBr := HB3.out.up HU.out
    have HWr := HW.out.up HU.out
    have k1 := HBr.read 1
    have m1 := HWr.read 1
    simp at k1 m1
    clear HBr HWr
    by_cases hl : i < n
    · have hl1 : i < L.length := by rw [HN.out]; exact hl
      have hl2 : i < (tabL P D b).length := by rw [← HLT.out]; exact hl
      obtain ⟨b1, o1, rfl, r1⟩ := ints_cell HC1.out (HU3.out.trans HU.out) hl1
      obtain ⟨b2, o2, rfl, r2⟩ := ints_cell HCO.out HU.out hl2
      have HS : Hid (L.getD i 0 = (tabL P D b).getD i 0 → ∀ j, j < i + 1 → L.getD j 0 = (tabL P D b).getD j 0) := hid (fun h j hj => by
        rcases Nat.lt_or_ge j i with h3 | h3
        · exact HG.out j h3
        · obtain rfl : j = i := by omega
          exact h)
      have HBd : Hid (L.getD i 0 ≠ (tabL P D b).getD i 0 → X = false) := hid (fun h => by
        rw [HX.out]
        simp
        intro h2
        exact h (by rw [h2]))
      clear hl1 hl2 HG
      generalize L.getD i 0 = x at *
      generalize (tabL P D b).getD i 0 = y at *
      have f1 := cellF k1
      have f2 := cellF m1
      have f3 := cellF r1
      have f4 := cellF r2
      have hiZ : (i : Int) < (n : Int) := by omega
      by_cases hxy : x = y
      · have d : (x != y) = false := by simp [hxy]
        have Hxy := hid hxy
        clear hxy
        go_wp2_with fail
        refine wp_region_up (by kernel_rfl) (by kernel_rfl) ?_
        repeat (go_big_quiet_step ((fail)))
        refine wpQuiet_nil ?_
        rintro _ ⟨u, rfl⟩
        have HU4 := hid (HU.out.trans u.up)
        clear f1 f2 f3 f4
        go_wp2_with fail
        go_roundw
        case rel => exact ⟨i + 1, by omega, by go_num, hid (HS.out Hxy.out), HU4⟩
        case measure => simp [intOf]; omega
      · have d : (x != y) = true := by simpa using hxy
        have hX : X = false := HBd.out hxy
        subst hX
        clear hxy
        go_wp2_with fail
        refine wp_region_up (by kernel_rfl) (by kernel_rfl) ?_
        repeat (go_big_quiet_step ((fail)))
        refine wpQuiet_nil ?_
        rintro _ ⟨u, rfl⟩
        go_wp2
        go_ret
        exact ⟨rfl, HU3.out.trans (HU.out.trans u.up)⟩
    · obtain rfl : i = n := by omega
      have hX : X = true := by
        rw [HX.out, beq_iff_eq]
        apply List.ext_getElem
        · rw [HTl.out, HN.out, HNn.out]
        · intro j h1 h2
          have := HG.out j (by rw [HN.out] at h2; exact h2)
          simpa [h1, h2] using this.symm
      subst hX
      go_wp2
      go_ret
      exact ⟨rfl, HU3.out.trans HU.out⟩
end Go.Proofs.YtldodbffdegmiaaDoor
