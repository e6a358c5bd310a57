/- The samples: lists of groups. -/
import Derived.Test.YtldodbffdegmiaaDoorAwakeTen
import Derived.Test.YtldodbffdegmiaaDoorSlices
import Derived.BigQuiet
namespace Go.Proofs.YtldodbffdegmiaaDoor
open Go.RowKit Go.Sp
set_option maxHeartbeats 1000000
set_option maxRecDepth 20000

/-- A list of groups lies there. -/
def GrpsAt (w : World) (v : Value) (gs : List (Int × Int × Int)) : Prop :=
  gs.length ≤ 1000000 ∧ ∃ b cap, v = .slice (some ⟨b, 0, none⟩) gs.length cap ∧ b < w.heap.size ∧ ∀ i, i < gs.length →
    w.cell? ⟨b, i * 3, none⟩ = some (.int .i64 (gs.getD i (0, 0, 0)).1) ∧ w.cell? ⟨b, i * 3 + 1, none⟩ = some (.int .i64 (gs.getD i (0, 0, 0)).2.1) ∧ w.cell? ⟨b, i * 3 + 2, none⟩ = some (.int .i64 (gs.getD i (0, 0, 0)).2.2)

theorem GrpsAt.up {w w' : World} {v : Value} {gs : List (Int × Int × Int)} (h : GrpsAt w v gs) (hU : Up w w') : GrpsAt w' v gs := by
  obtain ⟨hl, b, cap, rfl, hb, hc⟩ := h
  refine ⟨hl, b, cap, rfl, Nat.lt_of_lt_of_le hb hU.size, fun i hi => ?_⟩
  obtain ⟨h0, h1, h2⟩ := hc i hi
  exact ⟨by rw [hU.cell hb]; exact h0, by rw [hU.cell hb]; exact h1, by rw [hU.cell hb]; exact h2⟩

def nine : List (Int × Int × Int) := [(7, 3, 2), (11, 5, 4), (23, 11, 4), (47, 23, 4), (107, 53, 4), (227, 113, 4), (2039, 1019, 4), (2097143, 1048571, 4), (2147483579, 1073741789, 4)]

def SamplesOut (w : World) (e : Ending) (w' : World) : Prop := ∃ v, e = .returned v ∧ GrpsAt w' v nine ∧ Up w w'


theorem nine_at (w : World) : GrpsAt (w.alloc (.cells #[.int .i64 7, .int .i64 3, .int .i64 2, .int .i64 11, .int .i64 5, .int .i64 4, .int .i64 23, .int .i64 11, .int .i64 4, .int .i64 47, .int .i64 23, .int .i64 4, .int .i64 107, .int .i64 53, .int .i64 4, .int .i64 227, .int .i64 113, .int .i64 4, .int .i64 2039, .int .i64 1019, .int .i64 4, .int .i64 2097143, .int .i64 1048571, .int .i64 4, .int .i64 2147483579, .int .i64 1073741789, .int .i64 4] 23)) (.slice (some ⟨w.heap.size, 0, none⟩) 9 9) nine := by
  refine ⟨by simp [nine], w.heap.size, 9, rfl, by simp, ?_⟩
  intro i hi
  have hk := alloc_at w (.cells #[.int .i64 7, .int .i64 3, .int .i64 2, .int .i64 11, .int .i64 5, .int .i64 4, .int .i64 23, .int .i64 11, .int .i64 4, .int .i64 47, .int .i64 23, .int .i64 4, .int .i64 107, .int .i64 53, .int .i64 4, .int .i64 227, .int .i64 113, .int .i64 4, .int .i64 2039, .int .i64 1019, .int .i64 4, .int .i64 2097143, .int .i64 1048571, .int .i64 4, .int .i64 2147483579, .int .i64 1073741789, .int .i64 4] 23) _ rfl
  generalize w.alloc (.cells #[.int .i64 7, .int .i64 3, .int .i64 2, .int .i64 11, .int .i64 5, .int .i64 4, .int .i64 23, .int .i64 11, .int .i64 4, .int .i64 47, .int .i64 23, .int .i64 4, .int .i64 107, .int .i64 53, .int .i64 4, .int .i64 227, .int .i64 113, .int .i64 4, .int .i64 2039, .int .i64 1019, .int .i64 4, .int .i64 2097143, .int .i64 1048571, .int .i64 4, .int .i64 2147483579, .int .i64 1073741789, .int .i64 4] 23) = w1 at hk ⊢
  have : i = 0 ∨ i = 1 ∨ i = 2 ∨ i = 3 ∨ i = 4 ∨ i = 5 ∨ i = 6 ∨ i = 7 ∨ i = 8 := by simp [nine] at hi; omega
  rcases this with rfl | rfl | rfl | rfl | rfl | rfl | rfl | rfl | rfl <;> exact ⟨by simp [World.cell?, hk, nine], by simp [World.cell?, hk, nine], by simp [World.cell?, hk, nine]⟩

theorem Samples_ok (w : World) : Calls Tryd.prog 33 #[] w (SamplesOut w) := by
  go_enter Tryd.func33, Tryd.ntmps33
  go_wp2
  go_ret
  exact ⟨_, rfl, nine_at w, (Up.refl w).alloc _⟩

theorem rSamples_ok (w : World) : Calls Tryd.prog 34 #[] w (SamplesOut w) := by
  go_enter Tryd.func34, Tryd.ntmps34
  go_wp2
  go_ret
  exact ⟨_, rfl, nine_at w, (Up.refl w).alloc _⟩

/-- Two lists of the same groups are equal. -/
theorem eqGroups (v1 v2 : Value) (gs : List (Int × Int × Int)) (w : World) (h1 : GrpsAt w v1 gs) (h2 : GrpsAt w v2 gs) :
    Calls Tryd.prog 32 #[v1, v2] w fun e w' => e = .returned (.bool true) ∧ Up w w' := by
  obtain ⟨hl, b1, c1, rfl, _, hc1⟩ := h1
  obtain ⟨_, b2, c2, rfl, _, hc2⟩ := h2
  obtain ⟨n, hn⟩ : ∃ n, gs.length = n := ⟨_, rfl⟩
  rw [hn] at hl hc1 hc2
  have HC1 := hid hc1
  have HC2 := hid hc2
  rw [hn]
  clear hn hc1 hc2
  go_enter Tryd.func32, Tryd.ntmps32
  go_wp2_with fail
  go_loopw [13] (fun vi wr => ∃ i : Nat, i ≤ n ∧ vi = .int .i64 i ∧ Up w wr ∧ (∀ a, wr.cell? a = w.cell? a)) (fun vi _ => n - (intOf vi).toNat)
  case atStart => exact ⟨0, by omega, rfl, Up.refl w, fun _ => rfl⟩
  case round =>
    obtain ⟨i, hi, rfl, hU, hsame⟩ := hrel
    have HS := hid hsame
    have HU := hid hU
    clear hU hsame
    by_cases hlt : i < n
    · obtain ⟨p0, p1, p2⟩ := HC1.out i hlt
      obtain ⟨q0, q1, q2⟩ := HC2.out i hlt
      rw [← HS.out] at p0 p1 p2 q0 q1 q2
      go_wp2_with fail
      go_quiet (fail)
      go_wp2_with fail
      go_roundw
      case rel => exact ⟨i + 1, by omega, by go_num, by simpa using HU.out.drewN _, fun a => by simpa using HS.out a⟩
      case measure => simp [intOf]; omega
    · go_wp2
      go_ret
      exact ⟨rfl, HU.out⟩

theorem listsValid (P Q G : Int) (w : World) (hP : -9223372036854775808 ≤ P) (hQ : Q ≤ 9223372036854775807) :
    Calls Tryd.prog 36 #[grp P Q G] w fun e w' => e = .returned (.bool (!gvB P Q G)) ∧ Up w w' := by
  go_enter Tryd.func36, Tryd.ntmps36
  go_wp2_with fail
  refine (rValid_any P Q G _ hP hQ).mono ?_
  rintro e w1 ⟨rfl, hU⟩
  go_wp2
  go_ret
  exact ⟨rfl, ((Up.refl w).alloc _).trans hU⟩

def GoodL (gs : List (Int × Int × Int)) : Prop := ∀ i, i < gs.length → -9223372036854775808 ≤ (gs.getD i (0, 0, 0)).1 ∧ (gs.getD i (0, 0, 0)).2.1 ≤ 9223372036854775807 ∧ gvB (gs.getD i (0, 0, 0)).1 (gs.getD i (0, 0, 0)).2.1 (gs.getD i (0, 0, 0)).2.2 = true

theorem idxGroups (v : Value) (gs : List (Int × Int × Int)) (w : World) (h : GrpsAt w v gs) (hgood : GoodL gs) :
    Calls Tryd.prog 89 #[v, .func (.func 36) #[] #[]] w fun e w' => e = .returned (.int .i64 (-1)) ∧ Up w w' := by
  obtain ⟨hl, b, c, rfl, _, hc⟩ := h
  obtain ⟨n, hn⟩ : ∃ n, gs.length = n := ⟨_, rfl⟩
  unfold GoodL at hgood
  rw [hn] at hl hc hgood
  have HC := hid hc
  have HD := hid hgood
  have HB : Hid (b < w.heap.size) := hid ‹_›
  rw [hn]
  clear hn hc hgood
  go_enter Tryd.func89, Tryd.ntmps89
  go_wp2_with fail
  go_loopw [8] (fun vi wr => ∃ i : Nat, i ≤ n ∧ vi = .int .i64 i ∧ Up w wr) (fun vi _ => n - (intOf vi).toNat)
  case atStart => exact ⟨0, by omega, rfl, Up.refl w⟩
  case round =>
    obtain ⟨i, hi, rfl, hU⟩ := hrel
    have HU := hid hU
    by_cases hlt : i < n
    · obtain ⟨p0, p1, p2⟩ := HC.out i hlt
      obtain ⟨g0, g1, g2⟩ := HD.out i hlt
      rw [← hU.cell (HB.out)] at p0 p1 p2
      have HV := hid g2
      clear hU g2
      generalize gs.getD i (0, 0, 0) = g at *
      obtain ⟨P, Q, G⟩ := g
      go_wp2_with fail
      refine (listsValid P Q G _ g0 g1).mono ?_
      rintro e w2 ⟨rfl, hU2⟩
      rw [HV.out]
      have HU2 := hid (HU.out.trans hU2)
      clear hU2
      go_wp2_with fail
      go_roundw
      case rel => exact ⟨i + 1, by omega, by go_num, HU2.out⟩
      case measure => simp [intOf]; omega
    · clear hU
      go_wp2
      go_ret
      exact ⟨rfl, HU.out⟩

theorem anyGroups (v : Value) (gs : List (Int × Int × Int)) (w : World) (h : GrpsAt w v gs) (hgood : GoodL gs) :
    Calls Tryd.prog 35 #[v, .func (.func 36) #[] #[]] w fun e w' => e = .returned (.bool false) ∧ Up w w' := by
  have HI := hid (idxGroups v gs w h hgood)
  clear h hgood
  go_enter Tryd.func35, Tryd.ntmps35
  go_wp2_with fail
  refine HI.out.mono ?_
  rintro e w2 ⟨rfl, hU2⟩
  go_wp2
  go_ret
  exact ⟨rfl, hU2⟩
end Go.Proofs.YtldodbffdegmiaaDoor
