/- Packages group and specieref10: membership, products, inverses, powers. Package group: check, Mul, Inverse, Power, with their errors. Library functions that are handed a function. The helpers of the statements of layer 10. Boxes of groups; short slices. -/
import Derived.Test.YtdbhleinhpiohaaGreatDoorMB2
namespace Go.Proofs.YtdbhleinhpiohaaGreatDoor
open Go.RowKit Go.Sp
set_option maxHeartbeats 400000

theorem rValid_any (P Q G : Int) (w : World) (hP : -9223372036854775808 ≤ P) (hQ : Q ≤ 9223372036854775807) :
    Calls Tryz.prog 84 #[grp P Q G] w fun e w' => e = .returned (.bool (gvB P Q G)) ∧ Up w w' := by
  have HB : Hid (gvB P Q G = (decide (P < 2305843009213693952) && decide (3 ≤ Q) && decide (Q % 2 = 1) && isP P && isP Q && decide ((P - 1) % Q = 0) && decide (2 ≤ G) && decide (G < P) && decide (pw G Q.toNat P = 1))) := hid rfl
  generalize gvB P Q G = B at *
  by_cases c0 : 3 ≤ P
  case neg =>
    have hB : B = false := by
      rw [HB.out]
      by_cases hp : isP P = true
      · have p2 : P = 2 := by have := isP_two hp; omega
        by_cases hq : 3 ≤ Q
        · have : ¬ ((P - 1) % Q = 0) := by rw [Int.emod_eq_of_lt (by omega) (by omega)]; omega
          simp [this]
        · simp [hq]
      · simp [hp]
    subst hB
    have d0 : decide (P < 3) = true := by simp; omega
    go_enter Tryz.func84, Tryz.ntmps84
    go_wp2
    go_ret
    exact ⟨rfl, (Up.refl w).alloc _⟩
  have d0 : decide (P < 3) = false := by simp; omega
  by_cases c1 : P < 2305843009213693952
  case neg =>
    have hB : B = false := by rw [HB.out]; simp [c1]
    subst hB
    go_enter Tryz.func84, Tryz.ntmps84
    go_wp2
    go_ret
    exact ⟨rfl, (Up.refl w).alloc _⟩
  have d1 : decide (2305843009213693952 ≤ P) = false := by simp; omega
  by_cases c2 : 3 ≤ Q
  case neg =>
    have hB : B = false := by rw [HB.out]; simp [c2]
    subst hB
    go_enter Tryz.func84, Tryz.ntmps84
    go_wp2
    go_ret
    exact ⟨rfl, (Up.refl w).alloc _⟩
  have d2 : decide (Q < 3) = false := by simp; omega
  by_cases c3 : Q % 2 = 1
  case neg =>
    have hB : B = false := by rw [HB.out]; simp [c3]
    subst hB
    have d3 : (Q % 2 == 0) = true := by simp; omega
    clear c3
    go_enter Tryz.func84, Tryz.ntmps84
    go_wp2
    go_ret
    exact ⟨rfl, (Up.refl w).alloc _⟩
  have d3 : (Q % 2 == 0) = false := by simp; omega
  have C3 := hid c3
  clear c3
  have dq : (Q == 0) = false := by simp; omega
  by_cases c6 : (P - 1) % Q = 0
  case neg =>
    have hB : B = false := by rw [HB.out]; simp [c6]
    subst hB
    have d6 : ((P - 1) % Q != 0) = true := by simp [c6]
    have d6' : ((P - 1) % Q == 0) = false := by simp [c6]
    clear c6
    go_enter Tryz.func84, Tryz.ntmps84
    go_wp2
    go_ret
    exact ⟨rfl, (Up.refl w).alloc _⟩
  have d6 : ((P - 1) % Q != 0) = false := by simp [c6]
  have d6' : ((P - 1) % Q == 0) = true := by simp [c6]
  have hQP : Q < 2305843009213693952 := by
    refine Int.not_le.1 fun hle => ?_
    rw [Int.emod_eq_of_lt (by omega) (by omega)] at c6
    omega
  have C6 := hid c6
  clear c6
  by_cases c7 : 2 ≤ G
  case neg =>
    have hB : B = false := by rw [HB.out]; simp [c7]
    subst hB
    have d7 : decide (G < 2) = true := by simp; omega
    go_enter Tryz.func84, Tryz.ntmps84
    go_wp2
    go_ret
    exact ⟨rfl, (Up.refl w).alloc _⟩
  have d7 : decide (G < 2) = false := by simp; omega
  by_cases c8 : G < P
  case neg =>
    have hB : B = false := by rw [HB.out]; simp [c8]
    subst hB
    have d8 : decide (P ≤ G) = true := by simp; omega
    go_enter Tryz.func84, Tryz.ntmps84
    go_wp2
    go_ret
    exact ⟨rfl, (Up.refl w).alloc _⟩
  have d8 : decide (P ≤ G) = false := by simp; omega
  go_enter Tryz.func84, Tryz.ntmps84
  go_wp2_with fail
  refine (rIs_any P _ c1).mono ?_
  rintro e w1 ⟨rfl, hU1⟩
  obtain ⟨hr1, hf1⟩ := hU1.reads
  have hs1 : w.heap.size < w1.heap.size := by have := hU1.size; simp at this; omega
  by_cases c4 : isP P = true
  case neg =>
    have hB : B = false := by rw [HB.out]; simp [c4]
    subst hB
    have d4 : isP P = false := by simpa using c4
    clear c4
    go_wp2
    go_ret
    exact ⟨rfl, ((Up.refl w).alloc _).trans hU1⟩
  go_wp2_with fail
  refine (rIs_any Q _ hQP).mono ?_
  rintro e w2 ⟨rfl, hU2⟩
  obtain ⟨hr2, hf2⟩ := hU2.reads
  by_cases c5 : isP Q = true
  case neg =>
    have hB : B = false := by rw [HB.out]; simp [c5]
    subst hB
    have d5 : isP Q = false := by simpa using c5
    clear c5
    go_wp2
    go_ret
    exact ⟨rfl, (((Up.refl w).alloc _).trans hU1).trans hU2⟩
  go_wp2_with fail
  refine (rPow_ok G Q P _ (by omega) c8 (by omega) hQ c1).mono ?_
  rintro e w3 ⟨rfl, rfl⟩
  have hB : B = decide (pw G Q.toNat P = 1) := by rw [HB.out]; simp [c1, c2, C3.out, c4, c5, C6.out, c7, c8]
  have HB2 := hid hB
  clear hB
  by_cases c9 : pw G Q.toNat P = 1
  · have d9 : (pw G Q.toNat P == 1) = true := by simp [c9]
    have hB : B = true := by rw [HB2.out]; simp [c9]
    subst hB
    clear c9
    go_wp2
    go_ret
    exact ⟨rfl, (((Up.refl w).alloc _).trans hU1).trans hU2⟩
  · have d9 : (pw G Q.toNat P == 1) = false := by simp [c9]
    have hB : B = false := by rw [HB2.out]; simp [c9]
    subst hB
    clear c9
    go_wp2
    go_ret
    exact ⟨rfl, (((Up.refl w).alloc _).trans hU1).trans hU2⟩

theorem element_any (P Q G x : Int) (w : World) (hP : P < 2305843009213693952) (hQ0 : 0 ≤ Q) (hQ : Q ≤ 9223372036854775807) :
    Calls Tryz.prog 80 #[grp P Q G, .int .i64 x] w fun e w' => e = .returned (.bool (elB P Q x)) ∧ Up w w' := by
  have HB : Hid (elB P Q x = (decide (1 ≤ x) && decide (x < P) && decide (pw x Q.toNat P = 1))) := hid rfl
  generalize elB P Q x = B at *
  by_cases c1 : 1 ≤ x
  case neg =>
    have hB : B = false := by rw [HB.out]; simp [c1]
    subst hB
    go_enter Tryz.func80, Tryz.ntmps80
    go_wp2
    go_ret
    exact ⟨rfl, (Up.refl w).alloc _⟩
  have d1 : decide (x < 1) = false := by simp; omega
  by_cases c2 : x < P
  case neg =>
    have hB : B = false := by rw [HB.out]; simp [c2]
    subst hB
    have d2 : decide (P ≤ x) = true := by simp; omega
    go_enter Tryz.func80, Tryz.ntmps80
    go_wp2
    go_ret
    exact ⟨rfl, (Up.refl w).alloc _⟩
  have d2 : decide (P ≤ x) = false := by simp; omega
  have hB : B = decide (pw x Q.toNat P = 1) := by rw [HB.out]; simp [c1, c2]
  have HB2 := hid hB
  clear hB HB
  go_enter Tryz.func80, Tryz.ntmps80
  go_wp2_with fail
  refine (Pow_ok x Q P _ (by omega) c2 hQ0 hQ hP).mono ?_
  rintro e w3 ⟨rfl, hU3⟩
  go_wp2
  go_ret
  refine ⟨?_, ((Up.refl w).alloc _).trans hU3⟩
  rw [HB2.out]
  exact congrArg (fun b => Ending.returned (.bool b)) (by rw [Bool.eq_iff_iff]; simp)

theorem rMember_any (P Q G x : Int) (w : World) (hP : P < 2305843009213693952) (hQ0 : 0 ≤ Q) (hQ : Q ≤ 9223372036854775807) :
    Calls Tryz.prog 55 #[grp P Q G, .int .i64 x] w fun e w' => e = .returned (.bool (elB P Q x)) ∧ Up w w' := by
  have HB : Hid (elB P Q x = (decide (1 ≤ x) && decide (x < P) && decide (pw x Q.toNat P = 1))) := hid rfl
  generalize elB P Q x = B at *
  by_cases c1 : 1 ≤ x
  case neg =>
    have hB : B = false := by rw [HB.out]; simp [c1]
    subst hB
    go_enter Tryz.func55, Tryz.ntmps55
    go_wp2
    go_ret
    exact ⟨rfl, (Up.refl w).alloc _⟩
  have d1 : decide (1 ≤ x) = true := by simpa using c1
  by_cases c2 : x < P
  case neg =>
    have hB : B = false := by rw [HB.out]; simp [c2]
    subst hB
    have d2 : decide (x < P) = false := by simpa using c2
    go_enter Tryz.func55, Tryz.ntmps55
    go_wp2
    go_ret
    exact ⟨rfl, (Up.refl w).alloc _⟩
  have d2 : decide (x < P) = true := by simpa using c2
  have hB : B = decide (pw x Q.toNat P = 1) := by rw [HB.out]; simp [c1, c2]
  have HB2 := hid hB
  clear hB HB
  go_enter Tryz.func55, Tryz.ntmps55
  go_wp2_with fail
  refine (rPow_ok x Q P _ (by omega) c2 hQ0 hQ hP).mono ?_
  rintro e w3 ⟨rfl, rfl⟩
  go_wp2
  go_ret
  refine ⟨?_, (Up.refl w).alloc _⟩
  rw [HB2.out]
  exact congrArg (fun b => Ending.returned (.bool b)) (by rw [Bool.eq_iff_iff]; simp)

/-- Contains: valid, and an element. -/
def conB (P Q G x : Int) : Bool := gvB P Q G && elB P Q x

theorem Contains_any (P Q G x : Int) (w : World) (hP : -9223372036854775808 ≤ P) (hQ : Q ≤ 9223372036854775807) (hT : Tab w) :
    Calls Tryz.prog 68 #[grp P Q G, .int .i64 x] w fun e w' => e = .returned (.bool (conB P Q G x)) ∧ Up w w' := by
  have HT := hid hT
  clear hT
  go_enter Tryz.func68, Tryz.ntmps68
  go_wp2_with fail
  refine (Valid_any P Q G _ hP hQ (HT.out.up ((Up.refl w).alloc _))).mono ?_
  rintro e w1 ⟨rfl, hU1⟩
  obtain ⟨hr1, hf1⟩ := hU1.reads
  by_cases c : gvB P Q G = true
  · have g := gv_iff.1 c
    have HB : Hid (conB P Q G x = elB P Q x) := hid (by simp [conB, c])
    have g1 := g.P61
    have g2 := g.Q3
    clear g
    go_wp2_with fail
    refine (element_any P Q G x _ g1 (by omega) hQ).mono ?_
    rintro e w2 ⟨rfl, hU2⟩
    go_wp2
    go_ret
    exact ⟨by rw [HB.out]; rfl, (((Up.refl w).alloc _).trans hU1).trans hU2⟩
  · have c' : gvB P Q G = false := by simpa using c
    have HB : Hid (conB P Q G x = false) := hid (by simp [conB, c'])
    clear c
    go_wp2
    go_ret
    exact ⟨by rw [HB.out]; rfl, ((Up.refl w).alloc _).trans hU1⟩

theorem rgMul_ok (P Q G a b : Int) (w : World) (h0 : 0 ≤ a) (h1 : a < P) (h2 : 0 ≤ b) (h3 : b < P) (h4 : P < 2305843009213693952) :
    Calls Tryz.prog 28 #[grp P Q G, .int .i64 a, .int .i64 b] w fun e w' => e = .returned (.int .i64 (a * b % P)) ∧ Up w w' := by
  go_enter Tryz.func28, Tryz.ntmps28
  go_wp2_with fail
  refine (rMul_ok a b P _ h0 h1 h2 h3 h4).mono ?_
  rintro e w1 ⟨rfl, rfl⟩
  go_wp2
  go_ret
  exact ⟨rfl, (Up.refl w).alloc _⟩

theorem same_turn {P : Program} {f : FuncId} {args : Array Value} {w : World} {v : Value} (h : Calls P f args w fun e w' => e = .returned v ∧ w = w') : Calls P f args w fun e w' => e = .returned v ∧ w' = w :=
  h.mono fun _ _ ⟨a, b⟩ => ⟨a, b.symm⟩

/-- A power, the exponent any integer. -/
def gpw (P Q a e : Int) : Int := pw a (e % Q).toNat P

theorem rgPower_ok (P Q G a e : Int) (w : World) (h0 : 0 ≤ a) (h1 : a < P) (h2 : -9223372036854775808 ≤ e) (h3 : e ≤ 9223372036854775807) (h4 : P < 2305843009213693952) (h5 : 1 ≤ Q) (h6 : Q < 2305843009213693952) :
    Calls Tryz.prog 24 #[grp P Q G, .int .i64 a, .int .i64 e] w fun r w' => r = .returned (.int .i64 (gpw P Q a e)) ∧ Up w w' := by
  have r0 := Int.emod_nonneg e (show Q ≠ 0 by omega)
  have r1 := Int.emod_lt_of_pos e (show 0 < Q by omega)
  have HG : Hid (gpw P Q a e = pw a (e % Q).toNat P) := hid rfl
  have HR := fun w' => same_turn (rReduce_ok e Q w' h2 h3 h5 h6)
  obtain ⟨k, hk⟩ : ∃ k, e % Q = k := ⟨_, rfl⟩
  rw [hk] at r0 r1 HG HR
  have HR2 := hid HR
  clear hk HR
  go_enter Tryz.func24, Tryz.ntmps24
  go_wp2_with fail
  go_quiet ((first | (go_at_call 25; exact Calls.quiet_of_same (HR2.out _)) | (go_at_call 60; exact Calls.quiet_of_same (same_turn (rPow_ok a k P _ h0 h1 r0 (by omega) h4)))))
  go_wp2
  go_ret
  exact ⟨by rw [HG.out]; rfl, ((Up.refl w).alloc _).drewN _⟩
end Go.Proofs.YtdbhleinhpiohaaGreatDoor
namespace Go.Proofs.YtdbhleinhpiohaaGreatDoor
open Go.RowKit Go.Sp
set_option maxHeartbeats 400000

/-- v is a slice of just these integers. -/
def IntsAt (w : World) (v : Value) (xs : List Int) : Prop :=
  xs.length ≤ 9223372036854775807 ∧ ∃ a cap, v = .slice a xs.length cap ∧ (xs ≠ [] → ∃ b off, a = some ⟨b, off, none⟩ ∧ ∀ i, i < xs.length → w.cell? ⟨b, off + i, none⟩ = some (.int .i64 (xs.getD i 0)))

theorem cell_lt {w : World} {b o : Nat} {v : Value} (h : w.cell? ⟨b, o, none⟩ = some v) : b < w.heap.size := by
  unfold World.cell? at h
  split at h
  · rename_i h3; exact (Array.getElem?_eq_some_iff.1 h3).1
  · cases h

theorem IntsAt.up {w w' : World} {v : Value} {xs : List Int} (h : IntsAt w v xs) (hU : Up w w') : IntsAt w' v xs := by
  obtain ⟨hl, a, cap, hv, hc⟩ := h
  refine ⟨hl, a, cap, hv, fun hne => ?_⟩
  obtain ⟨b, off, ha, hcell⟩ := hc hne
  refine ⟨b, off, ha, fun i hi => ?_⟩
  rw [hU.cell (cell_lt (hcell i hi))]
  exact hcell i hi

/-- What check returns: 1: no valid group; 2: some number is no element. -/
def chkI (P Q G : Int) (xs : List Int) : Int := if gvB P Q G = true then (if xs.all (elB P Q) = true then 0 else 2) else 1

theorem gcheck_bad (P Q G : Int) (v : Value) (w : World) (hP : -9223372036854775808 ≤ P) (hQ : Q ≤ 9223372036854775807) (hT : Tab w) (hg : gvB P Q G = false) :
    Calls Tryz.prog 44 #[grp P Q G, v] w fun e w' => e = .returned (.int .i64 1) ∧ Up w w' := by
  have HT := hid hT
  clear hT
  go_enter Tryz.func44, Tryz.ntmps44
  go_wp2_with fail
  refine (Valid_any P Q G _ hP hQ (HT.out.up ((Up.refl w).alloc _))).mono ?_
  rintro e w1 ⟨rfl, hU1⟩
  go_wp2
  go_ret
  exact ⟨rfl, ((Up.refl w).alloc _).trans hU1⟩

theorem gcheck_good (P Q G : Int) (v : Value) (xs : List Int) (w : World) (hP : -9223372036854775808 ≤ P) (hQ : Q ≤ 9223372036854775807) (hT : Tab w) (hg : gvB P Q G = true) (hv : IntsAt w v xs) :
    Calls Tryz.prog 44 #[grp P Q G, v] w fun e w' => e = .returned (.int .i64 (if xs.all (elB P Q) = true then 0 else 2)) ∧ Up w w' := by
  have HT := hid hT
  clear hT
  have g := gv_iff.1 hg
  have g1 := g.P61
  have g2 := g.Q3
  clear g
  obtain ⟨hlen, a, cap, rfl, hc⟩ := hv
  have HC := hid hc
  clear hc
  obtain ⟨B, hB⟩ : ∃ B, xs.all (elB P Q) = B := ⟨_, rfl⟩
  rw [hB]
  have HB := hid hB
  clear hB
  go_enter Tryz.func44, Tryz.ntmps44
  go_wp2_with fail
  refine (Valid_any P Q G _ hP hQ (HT.out.up ((Up.refl w).alloc _))).mono ?_
  rintro e w1 ⟨rfl, hU1⟩
  obtain ⟨hr1, hf1⟩ := hU1.reads
  have hs1 : w.heap.size < w1.heap.size := by have := hU1.size; simp at this; omega
  have hb0 : w1.cell? ⟨w.heap.size, 0, none⟩ = some (.int .i64 P) := by rw [hr1 _ _ (by simp)]; go_simp
  have hb1 : w1.cell? ⟨w.heap.size, 1, none⟩ = some (.int .i64 Q) := by rw [hr1 _ _ (by simp)]; go_simp
  have hb2 : w1.cell? ⟨w.heap.size, 2, none⟩ = some (.int .i64 G) := by rw [hr1 _ _ (by simp)]; go_simp
  have HU0 : Hid (Up w w1) := hid (((Up.refl w).alloc _).trans hU1)
  clear hr1 hf1 hU1
  go_wp2_with fail
  go_loopw [12] (fun vi wr => ∃ i : Nat, i ≤ xs.length ∧ vi = .int .i64 i ∧ xs.all (elB P Q) = (xs.drop i).all (elB P Q) ∧ Up w1 wr) (fun vi _ => xs.length - (intOf vi).toNat)
  case atStart => exact ⟨0, by omega, rfl, rfl, Up.refl _⟩
  case round =>
    obtain ⟨i, hi, rfl, hI, hU⟩ := hrel
    have HI := hid hI
    clear hI
    by_cases hl : i < xs.length
    · obtain ⟨b, off, rfl, hcell⟩ := HC.out (by rintro rfl; simp at hl)
      have hx := hcell i hl
      have hblt := cell_lt hx
      have hx2 : wr.cell? ⟨b, off + i, none⟩ = some (.int .i64 (xs.getD i 0)) := by
        rw [hU.cell (by show b < w1.heap.size; omega), HU0.out.cell hblt]; exact hx
      have c0 : wr.cell? ⟨w.heap.size, 0, none⟩ = some (.int .i64 P) := by rw [hU.cell (by show w.heap.size < w1.heap.size; omega)]; exact hb0
      have c1 : wr.cell? ⟨w.heap.size, 1, none⟩ = some (.int .i64 Q) := by rw [hU.cell (by show w.heap.size < w1.heap.size; omega)]; exact hb1
      have c2 : wr.cell? ⟨w.heap.size, 2, none⟩ = some (.int .i64 G) := by rw [hU.cell (by show w.heap.size < w1.heap.size; omega)]; exact hb2
      have hd : xs.drop i = xs.getD i 0 :: xs.drop (i + 1) := by
        rw [List.drop_eq_getElem_cons hl]; simp [hl]
      have HI2 : Hid (xs.all (elB P Q) = (elB P Q (xs.getD i 0) && (xs.drop (i + 1)).all (elB P Q))) := hid (by rw [HI.out, hd]; rfl)
      clear HI hd hx hcell
      generalize xs.getD i 0 = x at *
      have HE := hid (element_any P Q G x · g1 (by omega) hQ)
      go_wp2_with fail
      refine (HE.out _).mono ?_
      rintro e w2 ⟨rfl, hU2⟩
      generalize elB P Q x = C at *
      cases C
      · have hB2 : B = false := by rw [← HB.out, HI2.out]; rfl
        subst hB2
        go_wp2
        go_ret
        exact ⟨rfl, (HU0.out.trans hU).trans hU2⟩
      · go_wp2
        go_roundw
        case rel => exact ⟨i + 1, by omega, by go_num, by rw [HI2.out]; rfl, hU.trans hU2⟩
        case measure => simp [intOf]; omega
    · have hB2 : B = true := by rw [← HB.out, HI.out, List.drop_eq_nil_of_le (by omega)]; rfl
      have hl2 : decide (i < xs.length) = false := by simpa using hl
      subst hB2
      go_wp2
      go_ret
      exact ⟨rfl, HU0.out.trans hU⟩

theorem gcheck_any (P Q G : Int) (v : Value) (xs : List Int) (w : World) (hP : -9223372036854775808 ≤ P) (hQ : Q ≤ 9223372036854775807) (hT : Tab w) (hv : IntsAt w v xs) :
    Calls Tryz.prog 44 #[grp P Q G, v] w fun e w' => e = .returned (.int .i64 (chkI P Q G xs)) ∧ Up w w' := by
  by_cases hg : gvB P Q G = true
  · rw [chkI, if_pos hg]; exact gcheck_good P Q G v xs w hP hQ hT hg hv
  · rw [chkI, if_neg hg]; exact gcheck_bad P Q G v w hP hQ hT (by simpa using hg)

theorem ints_at {w : World} {b cap : Nat} {xs : List Int} (hl : xs.length ≤ 9223372036854775807) (h : ∀ i, i < xs.length → w.cell? ⟨b, i, none⟩ = some (.int .i64 (xs.getD i 0))) : IntsAt w (.slice (some ⟨b, 0, none⟩) xs.length cap) xs :=
  ⟨hl, _, cap, rfl, fun _ => ⟨_, 0, rfl, fun i hi => by rw [Nat.zero_add]; exact h i hi⟩⟩

theorem ints_one {w : World} {b cap : Nat} {x : Int} (h : w.cell? ⟨b, 0, none⟩ = some (.int .i64 x)) : IntsAt w (.slice (some ⟨b, 0, none⟩) 1 cap) [x] :=
  ints_at (xs := [x]) (by simp) fun i hi => by
    obtain rfl : i = 0 := by simp at hi; omega
    exact h

theorem ints_two {w : World} {b cap : Nat} {x y : Int} (h : w.cell? ⟨b, 0, none⟩ = some (.int .i64 x)) (h1 : w.cell? ⟨b, 1, none⟩ = some (.int .i64 y)) : IntsAt w (.slice (some ⟨b, 0, none⟩) 2 cap) [x, y] :=
  ints_at (xs := [x, y]) (by simp) fun i hi => by
    have : i = 0 ∨ i = 1 := by simp at hi; omega
    rcases this with rfl | rfl
    · exact h
    · exact h1

theorem chkI_ok {P Q G : Int} {xs : List Int} (hg : gvB P Q G = true) (h : xs.all (elB P Q) = true) : chkI P Q G xs = 0 := by
  rw [chkI, if_pos hg, if_pos h]

/-- The inverse of an element: its power by Q - 1. -/
theorem el_inv {P Q a : Int} (hP : 2 ≤ P) (hQ : 1 ≤ Q) (ha : pw a Q.toNat P = 1) : a * pw a (Q.toNat - 1) P % P = 1 % P := by
  have h : Q.toNat = 1 + (Q.toNat - 1) := by omega
  rw [h] at ha
  unfold pw at *
  rw [Int.pow_add, show a ^ 1 = a by rw [Int.pow_succ]; simp] at ha
  rw [emul (rfl : a % P = a % P) (emod_self (a ^ (Q.toNat - 1)) P), ha, Int.emod_eq_of_lt (by omega) (by omega)]

end Go.Proofs.YtdbhleinhpiohaaGreatDoor
namespace Go.Proofs.YtdbhleinhpiohaaGreatDoor
open Go.RowKit Go.Sp
set_option maxHeartbeats 400000

/-- The place of the first number that p says yes to; -1 if there is none. -/
def idxI (p : Int → Bool) : List Int → Nat → Int
  | [], _ => -1
  | x :: l, k => if p x = true then (k : Int) else idxI p l (k + 1)

theorem idxI_nonneg (p : Int → Bool) : ∀ (xs : List Int) (k : Nat), decide (0 ≤ idxI p xs k) = xs.any p
  | [], _ => rfl
  | x :: l, k => by
    rw [idxI, List.any_cons]
    by_cases h : p x = true
    · rw [if_pos h, h]; simp
    · rw [if_neg h, idxI_nonneg p l (k + 1)]; simp [h]

end Go.Proofs.YtdbhleinhpiohaaGreatDoor
namespace Go.Proofs.YtdbhleinhpiohaaGreatDoor
open Go.RowKit Go.Sp
set_option maxHeartbeats 400000

/-- A group in a variable's block. -/
def GrpAt (w : World) (b : Nat) (P Q G : Int) : Prop :=
  w.cell? ⟨b, 0, none⟩ = some (.int .i64 P) ∧ w.cell? ⟨b, 1, none⟩ = some (.int .i64 Q) ∧ w.cell? ⟨b, 2, none⟩ = some (.int .i64 G)

theorem GrpAt.up {w w' : World} {b : Nat} {P Q G : Int} (h : GrpAt w b P Q G) (hU : Up w w') : GrpAt w' b P Q G := by
  obtain ⟨h0, h1, h2⟩ := h
  have hb := cell_lt h0
  exact ⟨by rw [hU.cell hb]; exact h0, by rw [hU.cell hb]; exact h1, by rw [hU.cell hb]; exact h2⟩

theorem any_not (p : Int → Bool) : ∀ xs : List Int, xs.any (fun x => !p x) = !xs.all p
  | [] => rfl
  | x :: l => by rw [List.any_cons, List.all_cons, any_not p l]; simp

end Go.Proofs.YtdbhleinhpiohaaGreatDoor
namespace Go.Proofs.YtdbhleinhpiohaaGreatDoor
open Go.RowKit Go.Sp
set_option maxHeartbeats 1000000

theorem alloc_at (w : World) (o : Obj) (b : Nat) (h : b = w.heap.size) : (w.alloc o).heap[b]? = some o := by
  subst h
  show (w.heap.push o)[w.heap.size]? = some o
  simp

theorem chk_cases {P Q G : Int} {xs : List Int} (h : chkI P Q G xs = 0) : gvB P Q G = true ∧ ∀ x ∈ xs, elB P Q x = true := by
  unfold chkI at h
  split at h
  · split at h
    · rename_i h1 h2; exact ⟨h1, fun x hx => List.all_eq_true.1 h2 x hx⟩
    · cases h
  · cases h

theorem ints_three {w : World} {b cap : Nat} {x y z : Int} (h : w.cell? ⟨b, 0, none⟩ = some (.int .i64 x)) (h1 : w.cell? ⟨b, 1, none⟩ = some (.int .i64 y)) (h2 : w.cell? ⟨b, 2, none⟩ = some (.int .i64 z)) : IntsAt w (.slice (some ⟨b, 0, none⟩) 3 cap) [x, y, z] :=
  ints_at (xs := [x, y, z]) (by simp) fun i hi => by
    have : i = 0 ∨ i = 1 ∨ i = 2 := by simp at hi; omega
    rcases this with rfl | rfl | rfl
    · exact h
    · exact h1
    · exact h2

theorem box_reads {w w1 : World} {P Q G : Int} {o : Obj} (ho : o = .cells #[.int .i64 P, .int .i64 Q, .int .i64 G] 23) (hU : Up (w.alloc o) w1) : GrpAt w1 w.heap.size P Q G := by
  have hb := alloc_at w o _ rfl
  have hlt : w.heap.size < (w.alloc o).heap.size := by simp
  have hk := hU.block hlt
  rw [hb, ho] at hk
  exact ⟨by simp [World.cell?, hk], by simp [World.cell?, hk], by simp [World.cell?, hk]⟩
end Go.Proofs.YtdbhleinhpiohaaGreatDoor
