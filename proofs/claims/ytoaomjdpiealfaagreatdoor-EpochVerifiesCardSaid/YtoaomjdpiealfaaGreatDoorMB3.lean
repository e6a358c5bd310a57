/- Packages group and specieref10: membership, products, inverses, powers. Package group: check, Mul, Inverse, Power, with their errors. Library functions that are handed a function. The helpers of the statements of layer 10. Slices of integers that the call itself makes. -/
import Derived.Test.YtoaomjdpiealfaaGreatDoorMB2
import Derived.Sort.OwnSortedInts
namespace Go.Proofs.YtoaomjdpiealfaaGreatDoor
open Go.RowKit Go.Sp
set_option maxHeartbeats 400000

theorem rValid_any (P Q G : Int) (w : World) (hP : -9223372036854775808 ≤ P) (hQ : Q ≤ 9223372036854775807) :
    Calls Tryz.prog 7 #[grp P Q G] w fun e w' => e = .returned (.bool (gvB P Q G)) ∧ Up w w' := by
  have HB : Hid (gvB P Q G = (decide (P < 2305843009213693952) && decide (3 ≤ Q) && decide (Q % 2 = 1) && isP P && isP Q && decide ((P - 1) % Q = 0) && decide (2 ≤ G) && decide (G < P) && decide (pw G Q.toNat P = 1))) := hid rfl
  generalize gvB P Q G = B at *
  by_cases c0 : 3 ≤ P
  case neg =>
    have hB : B = false := by
      rw [HB.out]
      by_cases hp : isP P = true
      · have p2 : P = 2 := by have := isP_two hp; omega
        by_cases hq : 3 ≤ Q
        · have : ¬ ((P - 1) % Q = 0) := by rw [Int.emod_eq_of_lt (by omega) (by omega)]; omega
          simp [this]
        · simp [hq]
      · simp [hp]
    subst hB
    have d0 : decide (P < 3) = true := by simp; omega
    go_enter Tryz.func7, Tryz.ntmps7
    go_wp2
    go_ret
    exact ⟨rfl, (Up.refl w).alloc _⟩
  have d0 : decide (P < 3) = false := by simp; omega
  by_cases c1 : P < 2305843009213693952
  case neg =>
    have hB : B = false := by rw [HB.out]; simp [c1]
    subst hB
    go_enter Tryz.func7, Tryz.ntmps7
    go_wp2
    go_ret
    exact ⟨rfl, (Up.refl w).alloc _⟩
  have d1 : decide (2305843009213693952 ≤ P) = false := by simp; omega
  by_cases c2 : 3 ≤ Q
  case neg =>
    have hB : B = false := by rw [HB.out]; simp [c2]
    subst hB
    go_enter Tryz.func7, Tryz.ntmps7
    go_wp2
    go_ret
    exact ⟨rfl, (Up.refl w).alloc _⟩
  have d2 : decide (Q < 3) = false := by simp; omega
  by_cases c3 : Q % 2 = 1
  case neg =>
    have hB : B = false := by rw [HB.out]; simp [c3]
    subst hB
    have d3 : (Q % 2 == 0) = true := by simp; omega
    clear c3
    go_enter Tryz.func7, Tryz.ntmps7
    go_wp2
    go_ret
    exact ⟨rfl, (Up.refl w).alloc _⟩
  have d3 : (Q % 2 == 0) = false := by simp; omega
  have C3 := hid c3
  clear c3
  have dq : (Q == 0) = false := by simp; omega
  by_cases c6 : (P - 1) % Q = 0
  case neg =>
    have hB : B = false := by rw [HB.out]; simp [c6]
    subst hB
    have d6 : ((P - 1) % Q != 0) = true := by simp [c6]
    have d6' : ((P - 1) % Q == 0) = false := by simp [c6]
    clear c6
    go_enter Tryz.func7, Tryz.ntmps7
    go_wp2
    go_ret
    exact ⟨rfl, (Up.refl w).alloc _⟩
  have d6 : ((P - 1) % Q != 0) = false := by simp [c6]
  have d6' : ((P - 1) % Q == 0) = true := by simp [c6]
  have hQP : Q < 2305843009213693952 := by
    refine Int.not_le.1 fun hle => ?_
    rw [Int.emod_eq_of_lt (by omega) (by omega)] at c6
    omega
  have C6 := hid c6
  clear c6
  by_cases c7 : 2 ≤ G
  case neg =>
    have hB : B = false := by rw [HB.out]; simp [c7]
    subst hB
    have d7 : decide (G < 2) = true := by simp; omega
    go_enter Tryz.func7, Tryz.ntmps7
    go_wp2
    go_ret
    exact ⟨rfl, (Up.refl w).alloc _⟩
  have d7 : decide (G < 2) = false := by simp; omega
  by_cases c8 : G < P
  case neg =>
    have hB : B = false := by rw [HB.out]; simp [c8]
    subst hB
    have d8 : decide (P ≤ G) = true := by simp; omega
    go_enter Tryz.func7, Tryz.ntmps7
    go_wp2
    go_ret
    exact ⟨rfl, (Up.refl w).alloc _⟩
  have d8 : decide (P ≤ G) = false := by simp; omega
  go_enter Tryz.func7, Tryz.ntmps7
  go_wp2_with fail
  refine (rIs_any P _ c1).mono ?_
  rintro e w1 ⟨rfl, hU1⟩
  obtain ⟨hr1, hf1⟩ := hU1.reads
  have hs1 : w.heap.size < w1.heap.size := by have := hU1.size; simp at this; omega
  by_cases c4 : isP P = true
  case neg =>
    have hB : B = false := by rw [HB.out]; simp [c4]
    subst hB
    have d4 : isP P = false := by simpa using c4
    clear c4
    go_wp2
    go_ret
    exact ⟨rfl, ((Up.refl w).alloc _).trans hU1⟩
  go_wp2_with fail
  refine (rIs_any Q _ hQP).mono ?_
  rintro e w2 ⟨rfl, hU2⟩
  obtain ⟨hr2, hf2⟩ := hU2.reads
  by_cases c5 : isP Q = true
  case neg =>
    have hB : B = false := by rw [HB.out]; simp [c5]
    subst hB
    have d5 : isP Q = false := by simpa using c5
    clear c5
    go_wp2
    go_ret
    exact ⟨rfl, (((Up.refl w).alloc _).trans hU1).trans hU2⟩
  go_wp2_with fail
  refine (rPow_ok G Q P _ (by omega) c8 (by omega) hQ c1).mono ?_
  rintro e w3 ⟨rfl, rfl⟩
  have hB : B = decide (pw G Q.toNat P = 1) := by rw [HB.out]; simp [c1, c2, C3.out, c4, c5, C6.out, c7, c8]
  have HB2 := hid hB
  clear hB
  by_cases c9 : pw G Q.toNat P = 1
  · have d9 : (pw G Q.toNat P == 1) = true := by simp [c9]
    have hB : B = true := by rw [HB2.out]; simp [c9]
    subst hB
    clear c9
    go_wp2
    go_ret
    exact ⟨rfl, (((Up.refl w).alloc _).trans hU1).trans hU2⟩
  · have d9 : (pw G Q.toNat P == 1) = false := by simp [c9]
    have hB : B = false := by rw [HB2.out]; simp [c9]
    subst hB
    clear c9
    go_wp2
    go_ret
    exact ⟨rfl, (((Up.refl w).alloc _).trans hU1).trans hU2⟩

theorem element_any (P Q G x : Int) (w : World) (hP : P < 2305843009213693952) (hQ0 : 0 ≤ Q) (hQ : Q ≤ 9223372036854775807) :
    Calls Tryz.prog 140 #[grp P Q G, .int .i64 x] w fun e w' => e = .returned (.bool (elB P Q x)) ∧ Up w w' := by
  have HB : Hid (elB P Q x = (decide (1 ≤ x) && decide (x < P) && decide (pw x Q.toNat P = 1))) := hid rfl
  generalize elB P Q x = B at *
  by_cases c1 : 1 ≤ x
  case neg =>
    have hB : B = false := by rw [HB.out]; simp [c1]
    subst hB
    go_enter Tryz.func140, Tryz.ntmps140
    go_wp2
    go_ret
    exact ⟨rfl, (Up.refl w).alloc _⟩
  have d1 : decide (x < 1) = false := by simp; omega
  by_cases c2 : x < P
  case neg =>
    have hB : B = false := by rw [HB.out]; simp [c2]
    subst hB
    have d2 : decide (P ≤ x) = true := by simp; omega
    go_enter Tryz.func140, Tryz.ntmps140
    go_wp2
    go_ret
    exact ⟨rfl, (Up.refl w).alloc _⟩
  have d2 : decide (P ≤ x) = false := by simp; omega
  have hB : B = decide (pw x Q.toNat P = 1) := by rw [HB.out]; simp [c1, c2]
  have HB2 := hid hB
  clear hB HB
  go_enter Tryz.func140, Tryz.ntmps140
  go_wp2_with fail
  refine (Pow_ok x Q P _ (by omega) c2 hQ0 hQ hP).mono ?_
  rintro e w3 ⟨rfl, hU3⟩
  go_wp2
  go_ret
  refine ⟨?_, ((Up.refl w).alloc _).trans hU3⟩
  rw [HB2.out]
  exact congrArg (fun b => Ending.returned (.bool b)) (by rw [Bool.eq_iff_iff]; simp)

theorem rMember_any (P Q G x : Int) (w : World) (hP : P < 2305843009213693952) (hQ0 : 0 ≤ Q) (hQ : Q ≤ 9223372036854775807) :
    Calls Tryz.prog 108 #[grp P Q G, .int .i64 x] w fun e w' => e = .returned (.bool (elB P Q x)) ∧ Up w w' := by
  have HB : Hid (elB P Q x = (decide (1 ≤ x) && decide (x < P) && decide (pw x Q.toNat P = 1))) := hid rfl
  generalize elB P Q x = B at *
  by_cases c1 : 1 ≤ x
  case neg =>
    have hB : B = false := by rw [HB.out]; simp [c1]
    subst hB
    go_enter Tryz.func108, Tryz.ntmps108
    go_wp2
    go_ret
    exact ⟨rfl, (Up.refl w).alloc _⟩
  have d1 : decide (1 ≤ x) = true := by simpa using c1
  by_cases c2 : x < P
  case neg =>
    have hB : B = false := by rw [HB.out]; simp [c2]
    subst hB
    have d2 : decide (x < P) = false := by simpa using c2
    go_enter Tryz.func108, Tryz.ntmps108
    go_wp2
    go_ret
    exact ⟨rfl, (Up.refl w).alloc _⟩
  have d2 : decide (x < P) = true := by simpa using c2
  have hB : B = decide (pw x Q.toNat P = 1) := by rw [HB.out]; simp [c1, c2]
  have HB2 := hid hB
  clear hB HB
  go_enter Tryz.func108, Tryz.ntmps108
  go_wp2_with fail
  refine (rPow_ok x Q P _ (by omega) c2 hQ0 hQ hP).mono ?_
  rintro e w3 ⟨rfl, rfl⟩
  go_wp2
  go_ret
  refine ⟨?_, (Up.refl w).alloc _⟩
  rw [HB2.out]
  exact congrArg (fun b => Ending.returned (.bool b)) (by rw [Bool.eq_iff_iff]; simp)

/-- Contains: valid, and an element. -/
def conB (P Q G x : Int) : Bool := gvB P Q G && elB P Q x

theorem Contains_any (P Q G x : Int) (w : World) (hP : -9223372036854775808 ≤ P) (hQ : Q ≤ 9223372036854775807) (hT : Tab w) :
    Calls Tryz.prog 77 #[grp P Q G, .int .i64 x] w fun e w' => e = .returned (.bool (conB P Q G x)) ∧ Up w w' := by
  have HT := hid hT
  clear hT
  go_enter Tryz.func77, Tryz.ntmps77
  go_wp2_with fail
  refine (Valid_any P Q G _ hP hQ (HT.out.up ((Up.refl w).alloc _))).mono ?_
  rintro e w1 ⟨rfl, hU1⟩
  obtain ⟨hr1, hf1⟩ := hU1.reads
  by_cases c : gvB P Q G = true
  · have g := gv_iff.1 c
    have HB : Hid (conB P Q G x = elB P Q x) := hid (by simp [conB, c])
    have g1 := g.P61
    have g2 := g.Q3
    clear g
    go_wp2_with fail
    refine (element_any P Q G x _ g1 (by omega) hQ).mono ?_
    rintro e w2 ⟨rfl, hU2⟩
    go_wp2
    go_ret
    exact ⟨by rw [HB.out]; rfl, (((Up.refl w).alloc _).trans hU1).trans hU2⟩
  · have c' : gvB P Q G = false := by simpa using c
    have HB : Hid (conB P Q G x = false) := hid (by simp [conB, c'])
    clear c
    go_wp2
    go_ret
    exact ⟨by rw [HB.out]; rfl, ((Up.refl w).alloc _).trans hU1⟩

theorem rContains_any (P Q G x : Int) (w : World) (hP : -9223372036854775808 ≤ P) (hQ : Q ≤ 9223372036854775807) :
    Calls Tryz.prog 132 #[grp P Q G, .int .i64 x] w fun e w' => e = .returned (.bool (conB P Q G x)) ∧ Up w w' := by
  go_enter Tryz.func132, Tryz.ntmps132
  go_wp2_with fail
  refine (rValid_any P Q G _ hP hQ).mono ?_
  rintro e w1 ⟨rfl, hU1⟩
  obtain ⟨hr1, hf1⟩ := hU1.reads
  by_cases c : gvB P Q G = true
  · have g := gv_iff.1 c
    have HB : Hid (conB P Q G x = elB P Q x) := hid (by simp [conB, c])
    have g1 := g.P61
    have g2 := g.Q3
    clear g
    go_wp2_with fail
    refine (rMember_any P Q G x _ g1 (by omega) hQ).mono ?_
    rintro e w2 ⟨rfl, hU2⟩
    go_wp2
    go_ret
    exact ⟨by rw [HB.out]; rfl, (((Up.refl w).alloc _).trans hU1).trans hU2⟩
  · have c' : gvB P Q G = false := by simpa using c
    have HB : Hid (conB P Q G x = false) := hid (by simp [conB, c'])
    clear c
    go_wp2
    go_ret
    exact ⟨by rw [HB.out]; rfl, ((Up.refl w).alloc _).trans hU1⟩

theorem rgMul_ok (P Q G a b : Int) (w : World) (h0 : 0 ≤ a) (h1 : a < P) (h2 : 0 ≤ b) (h3 : b < P) (h4 : P < 2305843009213693952) :
    Calls Tryz.prog 57 #[grp P Q G, .int .i64 a, .int .i64 b] w fun e w' => e = .returned (.int .i64 (a * b % P)) ∧ Up w w' := by
  go_enter Tryz.func57, Tryz.ntmps57
  go_wp2_with fail
  refine (rMul_ok a b P _ h0 h1 h2 h3 h4).mono ?_
  rintro e w1 ⟨rfl, rfl⟩
  go_wp2
  go_ret
  exact ⟨rfl, (Up.refl w).alloc _⟩

theorem same_turn {P : Program} {f : FuncId} {args : Array Value} {w : World} {v : Value} (h : Calls P f args w fun e w' => e = .returned v ∧ w = w') : Calls P f args w fun e w' => e = .returned v ∧ w' = w :=
  h.mono fun _ _ ⟨a, b⟩ => ⟨a, b.symm⟩

/-- A power, the exponent any integer. -/
def gpw (P Q a e : Int) : Int := pw a (e % Q).toNat P

theorem rgPower_ok (P Q G a e : Int) (w : World) (h0 : 0 ≤ a) (h1 : a < P) (h2 : -9223372036854775808 ≤ e) (h3 : e ≤ 9223372036854775807) (h4 : P < 2305843009213693952) (h5 : 1 ≤ Q) (h6 : Q < 2305843009213693952) :
    Calls Tryz.prog 53 #[grp P Q G, .int .i64 a, .int .i64 e] w fun r w' => r = .returned (.int .i64 (gpw P Q a e)) ∧ Up w w' := by
  have r0 := Int.emod_nonneg e (show Q ≠ 0 by omega)
  have r1 := Int.emod_lt_of_pos e (show 0 < Q by omega)
  have HG : Hid (gpw P Q a e = pw a (e % Q).toNat P) := hid rfl
  have HR := fun w' => same_turn (rReduce_ok e Q w' h2 h3 h5 h6)
  obtain ⟨k, hk⟩ : ∃ k, e % Q = k := ⟨_, rfl⟩
  rw [hk] at r0 r1 HG HR
  have HR2 := hid HR
  clear hk HR
  go_enter Tryz.func53, Tryz.ntmps53
  go_wp2_with fail
  go_quiet ((first | (go_at_call 54; exact Calls.quiet_of_same (HR2.out _)) | (go_at_call 27; exact Calls.quiet_of_same (same_turn (rPow_ok a k P _ h0 h1 r0 (by omega) h4)))))
  go_wp2
  go_ret
  exact ⟨by rw [HG.out]; rfl, ((Up.refl w).alloc _).drewN _⟩
end Go.Proofs.YtoaomjdpiealfaaGreatDoor
namespace Go.Proofs.YtoaomjdpiealfaaGreatDoor
open Go.RowKit Go.Sp
set_option maxHeartbeats 400000

/-- v is a slice of just these integers. -/
def IntsAt (w : World) (v : Value) (xs : List Int) : Prop :=
  xs.length ≤ 9223372036854775807 ∧ ∃ a cap, v = .slice a xs.length cap ∧ (xs ≠ [] → ∃ b off, a = some ⟨b, off, none⟩ ∧ ∀ i, i < xs.length → w.cell? ⟨b, off + i, none⟩ = some (.int .i64 (xs.getD i 0)))

theorem cell_lt {w : World} {b o : Nat} {v : Value} (h : w.cell? ⟨b, o, none⟩ = some v) : b < w.heap.size := by
  unfold World.cell? at h
  split at h
  · rename_i h3; exact (Array.getElem?_eq_some_iff.1 h3).1
  · cases h

theorem IntsAt.up {w w' : World} {v : Value} {xs : List Int} (h : IntsAt w v xs) (hU : Up w w') : IntsAt w' v xs := by
  obtain ⟨hl, a, cap, hv, hc⟩ := h
  refine ⟨hl, a, cap, hv, fun hne => ?_⟩
  obtain ⟨b, off, ha, hcell⟩ := hc hne
  refine ⟨b, off, ha, fun i hi => ?_⟩
  rw [hU.cell (cell_lt (hcell i hi))]
  exact hcell i hi

/-- What check returns: 1: no valid group; 2: some number is no element. -/
def chkI (P Q G : Int) (xs : List Int) : Int := if gvB P Q G = true then (if xs.all (elB P Q) = true then 0 else 2) else 1

theorem gcheck_bad (P Q G : Int) (v : Value) (w : World) (hP : -9223372036854775808 ≤ P) (hQ : Q ≤ 9223372036854775807) (hT : Tab w) (hg : gvB P Q G = false) :
    Calls Tryz.prog 78 #[grp P Q G, v] w fun e w' => e = .returned (.int .i64 1) ∧ Up w w' := by
  have HT := hid hT
  clear hT
  go_enter Tryz.func78, Tryz.ntmps78
  go_wp2_with fail
  refine (Valid_any P Q G _ hP hQ (HT.out.up ((Up.refl w).alloc _))).mono ?_
  rintro e w1 ⟨rfl, hU1⟩
  go_wp2
  go_ret
  exact ⟨rfl, ((Up.refl w).alloc _).trans hU1⟩

theorem gcheck_good (P Q G : Int) (v : Value) (xs : List Int) (w : World) (hP : -9223372036854775808 ≤ P) (hQ : Q ≤ 9223372036854775807) (hT : Tab w) (hg : gvB P Q G = true) (hv : IntsAt w v xs) :
    Calls Tryz.prog 78 #[grp P Q G, v] w fun e w' => e = .returned (.int .i64 (if xs.all (elB P Q) = true then 0 else 2)) ∧ Up w w' := by
  have HT := hid hT
  clear hT
  have g := gv_iff.1 hg
  have g1 := g.P61
  have g2 := g.Q3
  clear g
  obtain ⟨hlen, a, cap, rfl, hc⟩ := hv
  have HC := hid hc
  clear hc
  obtain ⟨B, hB⟩ : ∃ B, xs.all (elB P Q) = B := ⟨_, rfl⟩
  rw [hB]
  have HB := hid hB
  clear hB
  go_enter Tryz.func78, Tryz.ntmps78
  go_wp2_with fail
  refine (Valid_any P Q G _ hP hQ (HT.out.up ((Up.refl w).alloc _))).mono ?_
  rintro e w1 ⟨rfl, hU1⟩
  obtain ⟨hr1, hf1⟩ := hU1.reads
  have hs1 : w.heap.size < w1.heap.size := by have := hU1.size; simp at this; omega
  have hb0 : w1.cell? ⟨w.heap.size, 0, none⟩ = some (.int .i64 P) := by rw [hr1 _ _ (by simp)]; go_simp
  have hb1 : w1.cell? ⟨w.heap.size, 1, none⟩ = some (.int .i64 Q) := by rw [hr1 _ _ (by simp)]; go_simp
  have hb2 : w1.cell? ⟨w.heap.size, 2, none⟩ = some (.int .i64 G) := by rw [hr1 _ _ (by simp)]; go_simp
  have HU0 : Hid (Up w w1) := hid (((Up.refl w).alloc _).trans hU1)
  clear hr1 hf1 hU1
  go_wp2_with fail
  go_loopw [12] (fun vi wr => ∃ i : Nat, i ≤ xs.length ∧ vi = .int .i64 i ∧ xs.all (elB P Q) = (xs.drop i).all (elB P Q) ∧ Up w1 wr) (fun vi _ => xs.length - (intOf vi).toNat)
  case atStart => exact ⟨0, by omega, rfl, rfl, Up.refl _⟩
  case round =>
    obtain ⟨i, hi, rfl, hI, hU⟩ := hrel
    have HI := hid hI
    clear hI
    by_cases hl : i < xs.length
    · obtain ⟨b, off, rfl, hcell⟩ := HC.out (by rintro rfl; simp at hl)
      have hx := hcell i hl
      have hblt := cell_lt hx
      have hx2 : wr.cell? ⟨b, off + i, none⟩ = some (.int .i64 (xs.getD i 0)) := by
        rw [hU.cell (by show b < w1.heap.size; omega), HU0.out.cell hblt]; exact hx
      have c0 : wr.cell? ⟨w.heap.size, 0, none⟩ = some (.int .i64 P) := by rw [hU.cell (by show w.heap.size < w1.heap.size; omega)]; exact hb0
      have c1 : wr.cell? ⟨w.heap.size, 1, none⟩ = some (.int .i64 Q) := by rw [hU.cell (by show w.heap.size < w1.heap.size; omega)]; exact hb1
      have c2 : wr.cell? ⟨w.heap.size, 2, none⟩ = some (.int .i64 G) := by rw [hU.cell (by show w.heap.size < w1.heap.size; omega)]; exact hb2
      have hd : xs.drop i = xs.getD i 0 :: xs.drop (i + 1) := by
        rw [List.drop_eq_getElem_cons hl]; simp [hl]
      have HI2 : Hid (xs.all (elB P Q) = (elB P Q (xs.getD i 0) && (xs.drop (i + 1)).all (elB P Q))) := hid (by rw [HI.out, hd]; rfl)
      clear HI hd hx hcell
      generalize xs.getD i 0 = x at *
      have HE := hid (element_any P Q G x · g1 (by omega) hQ)
      go_wp2_with fail
      refine (HE.out _).mono ?_
      rintro e w2 ⟨rfl, hU2⟩
      generalize elB P Q x = C at *
      cases C
      · have hB2 : B = false := by rw [← HB.out, HI2.out]; rfl
        subst hB2
        go_wp2
        go_ret
        exact ⟨rfl, (HU0.out.trans hU).trans hU2⟩
      · go_wp2
        go_roundw
        case rel => exact ⟨i + 1, by omega, by go_num, by rw [HI2.out]; rfl, hU.trans hU2⟩
        case measure => simp [intOf]; omega
    · have hB2 : B = true := by rw [← HB.out, HI.out, List.drop_eq_nil_of_le (by omega)]; rfl
      have hl2 : decide (i < xs.length) = false := by simpa using hl
      subst hB2
      go_wp2
      go_ret
      exact ⟨rfl, HU0.out.trans hU⟩

theorem gcheck_any (P Q G : Int) (v : Value) (xs : List Int) (w : World) (hP : -9223372036854775808 ≤ P) (hQ : Q ≤ 9223372036854775807) (hT : Tab w) (hv : IntsAt w v xs) :
    Calls Tryz.prog 78 #[grp P Q G, v] w fun e w' => e = .returned (.int .i64 (chkI P Q G xs)) ∧ Up w w' := by
  by_cases hg : gvB P Q G = true
  · rw [chkI, if_pos hg]; exact gcheck_good P Q G v xs w hP hQ hT hg hv
  · rw [chkI, if_neg hg]; exact gcheck_bad P Q G v w hP hQ hT (by simpa using hg)

theorem ints_at {w : World} {b cap : Nat} {xs : List Int} (hl : xs.length ≤ 9223372036854775807) (h : ∀ i, i < xs.length → w.cell? ⟨b, i, none⟩ = some (.int .i64 (xs.getD i 0))) : IntsAt w (.slice (some ⟨b, 0, none⟩) xs.length cap) xs :=
  ⟨hl, _, cap, rfl, fun _ => ⟨_, 0, rfl, fun i hi => by rw [Nat.zero_add]; exact h i hi⟩⟩

theorem ints_one {w : World} {b cap : Nat} {x : Int} (h : w.cell? ⟨b, 0, none⟩ = some (.int .i64 x)) : IntsAt w (.slice (some ⟨b, 0, none⟩) 1 cap) [x] :=
  ints_at (xs := [x]) (by simp) fun i hi => by
    obtain rfl : i = 0 := by simp at hi; omega
    exact h

theorem ints_two {w : World} {b cap : Nat} {x y : Int} (h : w.cell? ⟨b, 0, none⟩ = some (.int .i64 x)) (h1 : w.cell? ⟨b, 1, none⟩ = some (.int .i64 y)) : IntsAt w (.slice (some ⟨b, 0, none⟩) 2 cap) [x, y] :=
  ints_at (xs := [x, y]) (by simp) fun i hi => by
    have : i = 0 ∨ i = 1 := by simp at hi; omega
    rcases this with rfl | rfl
    · exact h
    · exact h1

theorem chkI_ok {P Q G : Int} {xs : List Int} (hg : gvB P Q G = true) (h : xs.all (elB P Q) = true) : chkI P Q G xs = 0 := by
  rw [chkI, if_pos hg, if_pos h]

theorem gMul_ok (P Q G a b : Int) (w : World) (hQ : Q ≤ 9223372036854775807) (hT : Tab w) (hg : gvB P Q G = true) (ha : elB P Q a = true) (hb : elB P Q b = true) :
    Calls Tryz.prog 157 #[grp P Q G, .int .i64 a, .int .i64 b] w fun e w' => e = .returned (.tuple #[.int .i64 (a * b % P), .int .i64 0]) ∧ Up w w' := by
  have HT := hid hT
  clear hT
  have g := gv_iff.1 hg
  obtain ⟨a1, a2, a3⟩ := el_iff.1 ha
  obtain ⟨b1, b2, b3⟩ := el_iff.1 hb
  have g1 := g.P61
  have g2 := g.P4
  have HA := hid (chkI_ok (xs := [a, b]) hg (by simp [ha, hb]))
  clear g a3 b3 hg ha hb
  go_enter Tryz.func157, Tryz.ntmps157
  go_wp2_with fail
  refine (gcheck_any P Q G _ [a, b] _ (by omega) hQ (HT.out.up (((Up.refl w).alloc _).alloc _)) (ints_two (by go_simp) (by go_simp))).mono ?_
  rintro e w1 ⟨rfl, hU1⟩
  obtain ⟨hr1, hf1⟩ := hU1.reads
  rw [HA.out]
  go_wp2_with fail
  refine (Mul_ok a b P _ (by omega) a2 (by omega) b2 g1).mono ?_
  rintro e w2 ⟨rfl, hU2⟩
  go_wp2
  go_ret2
  exact ⟨rfl, ((((Up.refl w).alloc _).alloc _).trans hU1).trans hU2⟩

theorem gMul_bad (P Q G a b c : Int) (w : World) (hP : -9223372036854775808 ≤ P) (hQ : Q ≤ 9223372036854775807) (hT : Tab w) (hc : chkI P Q G [a, b] = c) (hc0 : (c != 0) = true) :
    Calls Tryz.prog 157 #[grp P Q G, .int .i64 a, .int .i64 b] w fun e w' => e = .returned (.tuple #[.int .i64 0, .int .i64 c]) ∧ Up w w' := by
  have HT := hid hT
  have HA := hid hc
  clear hT hc
  go_enter Tryz.func157, Tryz.ntmps157
  go_wp2_with fail
  refine (gcheck_any P Q G _ [a, b] _ hP hQ (HT.out.up (((Up.refl w).alloc _).alloc _)) (ints_two (by go_simp) (by go_simp))).mono ?_
  rintro e w1 ⟨rfl, hU1⟩
  rw [HA.out]
  go_wp2
  go_ret2
  exact ⟨rfl, (((Up.refl w).alloc _).alloc _).trans hU1⟩

/-- The inverse of an element: its power by Q - 1. -/
theorem el_inv {P Q a : Int} (hP : 2 ≤ P) (hQ : 1 ≤ Q) (ha : pw a Q.toNat P = 1) : a * pw a (Q.toNat - 1) P % P = 1 % P := by
  have h : Q.toNat = 1 + (Q.toNat - 1) := by omega
  rw [h] at ha
  unfold pw at *
  rw [Int.pow_add, show a ^ 1 = a by rw [Int.pow_succ]; simp] at ha
  rw [emul (rfl : a % P = a % P) (emod_self (a ^ (Q.toNat - 1)) P), ha, Int.emod_eq_of_lt (by omega) (by omega)]

theorem gPower_ok (P Q G a k : Int) (w : World) (hQ : Q ≤ 9223372036854775807) (hT : Tab w) (hg : gvB P Q G = true) (ha : elB P Q a = true) (k0 : -9223372036854775808 ≤ k) (k1 : k ≤ 9223372036854775807) :
    Calls Tryz.prog 30 #[grp P Q G, .int .i64 a, .int .i64 k] w fun e w' => e = .returned (.tuple #[.int .i64 (gpw P Q a k), .int .i64 0]) ∧ Up w w' := by
  have HT := hid hT
  clear hT
  have g := gv_iff.1 hg
  obtain ⟨a1, a2, a3⟩ := el_iff.1 ha
  have g1 := g.P61
  have g2 := g.P4
  have g3 := g.Q3
  have g4 := g.QP
  have HA := hid (chkI_ok (xs := [a]) hg (by simp [ha]))
  have r0 := Int.emod_nonneg k (show Q ≠ 0 by omega)
  have r1 := Int.emod_lt_of_pos k (show 0 < Q by omega)
  have HG : Hid (gpw P Q a k = pw a (k % Q).toNat P) := hid rfl
  have HR := hid (Reduce_ok k Q · k0 k1 (by omega) (by omega))
  clear g a3 hg ha
  generalize k % Q = m at *
  go_enter Tryz.func30, Tryz.ntmps30
  go_wp2_with fail
  refine (gcheck_any P Q G _ [a] _ (by omega) hQ (HT.out.up (((Up.refl w).alloc _).alloc _)) (ints_one (by go_simp))).mono ?_
  rintro e w1 ⟨rfl, hU1⟩
  obtain ⟨hr1, hf1⟩ := hU1.reads
  rw [HA.out]
  go_wp2_with fail
  refine (HR.out _).mono ?_
  rintro e w2 ⟨rfl, rfl⟩
  go_wp2_with fail
  refine (Pow_ok a m P _ (by omega) a2 r0 (by omega) g1).mono ?_
  rintro e w2 ⟨rfl, hU2⟩
  go_wp2
  go_ret2
  exact ⟨by rw [HG.out]; rfl, ((((Up.refl w).alloc _).alloc _).trans hU1).trans hU2⟩

theorem gPower_bad (P Q G a k c : Int) (w : World) (hP : -9223372036854775808 ≤ P) (hQ : Q ≤ 9223372036854775807) (hT : Tab w) (hc : chkI P Q G [a] = c) (hc0 : (c != 0) = true) :
    Calls Tryz.prog 30 #[grp P Q G, .int .i64 a, .int .i64 k] w fun e w' => e = .returned (.tuple #[.int .i64 0, .int .i64 c]) ∧ Up w w' := by
  have HT := hid hT
  have HA := hid hc
  clear hT hc
  go_enter Tryz.func30, Tryz.ntmps30
  go_wp2_with fail
  refine (gcheck_any P Q G _ [a] _ hP hQ (HT.out.up (((Up.refl w).alloc _).alloc _)) (ints_one (by go_simp))).mono ?_
  rintro e w1 ⟨rfl, hU1⟩
  rw [HA.out]
  go_wp2
  go_ret2
  exact ⟨rfl, (((Up.refl w).alloc _).alloc _).trans hU1⟩
end Go.Proofs.YtoaomjdpiealfaaGreatDoor
namespace Go.Proofs.YtoaomjdpiealfaaGreatDoor
open Go.RowKit Go.Sp
set_option maxHeartbeats 400000

/-- The place of the first number that p says yes to; -1 if there is none. -/
def idxI (p : Int → Bool) : List Int → Nat → Int
  | [], _ => -1
  | x :: l, k => if p x = true then (k : Int) else idxI p l (k + 1)

set_option maxRecDepth 20000 in
theorem IndexFunc_any (f : FuncId) (c : Value) (p : Int → Bool) (v : Value) (xs : List Int) (w : World) (hv : IntsAt w v xs)
    (hcf : ∀ args w, (callFunc f args).run Tryz.prog w = .ok (.enter f args) w)
    (hf : ∀ x, x ∈ xs → ∀ w', Up w w' → Calls Tryz.prog f #[.int .i64 x, c] w' fun e w'' => e = .returned (.bool (p x)) ∧ Up w' w'') :
    Calls Tryz.prog 221 #[v, .func (.func f) #[] #[c]] w fun e w' => e = .returned (.int .i64 (idxI p xs 0)) ∧ Up w w' := by
  have HF := hid hf
  clear hf
  obtain ⟨hlen, a, cap, rfl, hc⟩ := hv
  have HC := hid hc
  clear hc
  obtain ⟨R, hR⟩ : ∃ R, idxI p xs 0 = R := ⟨_, rfl⟩
  rw [hR]
  have HR := hid hR
  clear hR
  go_enter Tryz.func221, Tryz.ntmps221
  go_wp2_with fail
  go_loopw [8] (fun vi wr => ∃ i : Nat, i ≤ xs.length ∧ vi = .int .i64 i ∧ idxI p xs 0 = idxI p (xs.drop i) i ∧ Up w wr) (fun vi _ => xs.length - (intOf vi).toNat)
  case atStart => exact ⟨0, by omega, rfl, rfl, Up.refl _⟩
  case round =>
    obtain ⟨i, hi, rfl, hI, hU⟩ := hrel
    have HI := hid hI
    clear hI
    by_cases hl : i < xs.length
    · obtain ⟨b, off, rfl, hcell⟩ := HC.out (by rintro rfl; simp at hl)
      have hx := hcell i hl
      have hx2 : wr.cell? ⟨b, off + i, none⟩ = some (.int .i64 (xs.getD i 0)) := by
        rw [hU.cell (cell_lt hx)]; exact hx
      have hd : xs.drop i = xs.getD i 0 :: xs.drop (i + 1) := by
        rw [List.drop_eq_getElem_cons hl]; simp [hl]
      have hm : xs.getD i 0 ∈ xs := by simp [hl]
      have HI2 : Hid (idxI p xs 0 = if p (xs.getD i 0) = true then (i : Int) else idxI p (xs.drop (i + 1)) (i + 1)) := hid (by rw [HI.out, hd]; rfl)
      clear HI hd hx hcell
      have HE := hid (HF.out (xs.getD i 0) hm)
      clear hm
      generalize xs.getD i 0 = x at *
      go_wp2_with fail
      refine (HE.out _ hU).mono ?_
      rintro e w2 ⟨rfl, hU2⟩
      generalize p x = C at *
      cases C
      · go_wp2
        go_roundw
        case rel => exact ⟨i + 1, by omega, by go_num, by rw [HI2.out]; rfl, hU.trans hU2⟩
        case measure => simp [intOf]; omega
      · have hB2 : R = (i : Int) := by rw [← HR.out, HI2.out]; rfl
        have HB2 := hid hB2
        clear hB2
        go_wp2
        go_ret
        exact ⟨by rw [HB2.out]; rfl, hU.trans hU2⟩
    · have hB2 : R = -1 := by rw [← HR.out, HI.out, List.drop_eq_nil_of_le (by omega)]; rfl
      have hl2 : decide (i < xs.length) = false := by simpa using hl
      subst hB2
      go_wp2
      go_ret
      exact ⟨rfl, hU⟩

theorem idxI_nonneg (p : Int → Bool) : ∀ (xs : List Int) (k : Nat), decide (0 ≤ idxI p xs k) = xs.any p
  | [], _ => rfl
  | x :: l, k => by
    rw [idxI, List.any_cons]
    by_cases h : p x = true
    · rw [if_pos h, h]; simp
    · rw [if_neg h, idxI_nonneg p l (k + 1)]; simp [h]

theorem ContainsFunc_any (f : FuncId) (c : Value) (p : Int → Bool) (v : Value) (xs : List Int) (w : World) (hv : IntsAt w v xs)
    (hcf : ∀ args w, (callFunc f args).run Tryz.prog w = .ok (.enter f args) w)
    (hf : ∀ x, x ∈ xs → ∀ w', Up w w' → Calls Tryz.prog f #[.int .i64 x, c] w' fun e w'' => e = .returned (.bool (p x)) ∧ Up w' w'') :
    Calls Tryz.prog 193 #[v, .func (.func f) #[] #[c]] w fun e w' => e = .returned (.bool (xs.any p)) ∧ Up w w' := by
  have HI := hid (IndexFunc_any f c p v xs w hv hcf hf)
  have HN := hid (idxI_nonneg p xs 0)
  clear hf hv hcf
  generalize idxI p xs 0 = k at *
  go_enter Tryz.func193, Tryz.ntmps193
  go_wp2_with fail
  refine HI.out.mono ?_
  rintro e w2 ⟨rfl, hU2⟩
  go_wp2
  go_ret
  exact ⟨by rw [← HN.out]; rfl, hU2⟩
end Go.Proofs.YtoaomjdpiealfaaGreatDoor
namespace Go.Proofs.YtoaomjdpiealfaaGreatDoor
open Go.RowKit Go.Sp
set_option maxHeartbeats 400000

/-- A group in a variable's block. -/
def GrpAt (w : World) (b : Nat) (P Q G : Int) : Prop :=
  w.cell? ⟨b, 0, none⟩ = some (.int .i64 P) ∧ w.cell? ⟨b, 1, none⟩ = some (.int .i64 Q) ∧ w.cell? ⟨b, 2, none⟩ = some (.int .i64 G)

theorem GrpAt.up {w w' : World} {b : Nat} {P Q G : Int} (h : GrpAt w b P Q G) (hU : Up w w') : GrpAt w' b P Q G := by
  obtain ⟨h0, h1, h2⟩ := h
  have hb := cell_lt h0
  exact ⟨by rw [hU.cell hb]; exact h0, by rw [hU.cell hb]; exact h1, by rw [hU.cell hb]; exact h2⟩

theorem any_not (p : Int → Bool) : ∀ xs : List Int, xs.any (fun x => !p x) = !xs.all p
  | [] => rfl
  | x :: l => by rw [List.any_cons, List.all_cons, any_not p l]; simp

end Go.Proofs.YtoaomjdpiealfaaGreatDoor
namespace Go.Proofs.YtoaomjdpiealfaaGreatDoor
open Go.RowKit Go.Sp Go.Sort
set_option maxHeartbeats 400000

theorem infoInt : (Tryz.prog.info? 3).map (fun i => (i.zero, i.size, i.bytes)) = some (some (.int .i64 0), 1, 8) := by kernel_rfl

/-- The slice v is the call's own, and holds just these integers. -/
def OwnI (w : World) (base : Nat) (v : Value) (xs : List Int) : Prop := w.ownsRow base 3 1 v xs.length (xs.map (Value.int .i64))

theorem OwnI.ints {w : World} {base : Nat} {v : Value} {xs : List Int} (h : OwnI w base v xs) : IntsAt w v xs := by
  rcases h.2 with ⟨hv, hn⟩ | ⟨g, cap, cur, rfl, hb, hg, hn, hm, hs, ht⟩
  · exact ⟨by omega, none, 0, by rw [hv, hn], fun hne => absurd (List.length_eq_zero_iff.1 hn) hne⟩
  · refine ⟨by unfold maxLen at hm; omega, _, cap, rfl, fun _ => ⟨g, 0, rfl, fun i hi => ?_⟩⟩
    rw [Nat.zero_add, World.ownsRow.cellAt h i (by omega)]
    simp [hi]

theorem OwnI.grown {w w' : World} {base : Nat} {v : Value} {xs : List Int} {row : Option Nat} (h : OwnI w base v xs) (hg : w.grownBy w' row) (hne : v.ownBlock = none ∨ v.ownBlock ≠ row) : OwnI w' base v xs :=
  World.ownsRow.kept h hg hne

theorem ownsRow_up {w w' : World} {base e size n : Nat} {v : Value} {xs : List Value} (h : w.ownsRow base e size v n xs) (hU : Up w w') : w'.ownsRow base e size v n xs := by
  refine ⟨h.1, ?_⟩
  rcases h.2 with hn | ⟨g, cap, cur, rfl, hb, hgg, rest⟩
  · exact .inl hn
  · refine .inr ⟨g, cap, cur, rfl, hb, ?_, rest⟩
    rw [hU.block (Array.getElem?_eq_some_iff.1 hgg).1]
    exact hgg

theorem OwnI.up {w w' : World} {base : Nat} {v : Value} {xs : List Int} (h : OwnI w base v xs) (hU : Up w w') : OwnI w' base v xs := ownsRow_up h hU

theorem OwnI.mono {w : World} {base base' : Nat} {v : Value} {xs : List Int} (h : OwnI w base v xs) (hb : base' ≤ base) : OwnI w base' v xs := by
  refine ⟨h.1, ?_⟩
  rcases h.2 with hn | ⟨g, cap, cur, rfl, hb2, rest⟩
  · exact .inl hn
  · exact .inr ⟨g, cap, cur, rfl, by omega, rest⟩

theorem up_grown {w w' w'' : World} {row : Option Nat} (h : Up w w') (hg : w'.grownBy w'' row) (hr : ∀ k, row = some k → w.heap.size ≤ k) : Up w w'' := Below.grown h hg h.size hr

/-- The numbers in order. -/
def isort (xs : List Int) : List Int := xs.mergeSort fun x y => decide (x ≤ y)

theorem isort_length (xs : List Int) : (isort xs).length = xs.length := List.length_mergeSort xs

/-- The cells of a list that is filled from the left. -/
def filled (f : Nat → Int) (n i : Nat) : List Value := (List.range n).map fun j => Value.int .i64 (if j < i then f j else 0)

theorem filled_set (f : Nat → Int) (n i : Nat) : (filled f n i).set i (.int .i64 (f i)) = filled f n (i + 1) := by
  apply List.ext_getElem
  · simp [filled]
  · intro j h1 h2
    simp only [filled, List.getElem_set, List.getElem_map, List.getElem_range]
    split
    · rename_i h; subst h; simp
    · rename_i h
      have : (j < i + 1) = (j < i) := by simp; omega
      simp [this]

theorem filled_zero (f : Nat → Int) (n : Nat) : (madeCells #[Value.int .i64 0] n).toList = filled f n 0 := by
  apply List.ext_getElem
  · simp [filled, madeCells]
  · intro j h1 h2
    simp [filled, madeCells, Nat.mod_one]

theorem filled_all (f : Nat → Int) (n : Nat) : filled f n n = ((List.range n).map f).map (Value.int .i64) := by
  apply List.ext_getElem
  · simp [filled]
  · intro j h1 h2
    simp [filled] at h1 ⊢
    intro h; omega

/-- The powers of G, from that by 0 on. -/
def powList (P G : Int) (n : Nat) : List Int := (List.range n).map fun i => pw G i P

def ElemOut (P Q G : Int) (w : World) (e : Ending) (w' : World) : Prop :=
  ∃ v, e = .returned (.tuple #[v, .int .i64 0]) ∧ OwnI w' w.heap.size v (isort (powList P G Q.toNat)) ∧ Up w w'

end Go.Proofs.YtoaomjdpiealfaaGreatDoor
