/- slices.IsSorted of integers in order. GroupLists: the walk. One commitment fits; one response fits. Baby steps and giant steps: the plain side. -/
import Derived.Test.YtdlcmpbpdbpanaaDoorMB15
import Derived.Test.YtdlcmpbpdbpanaaDoorMB1
import Derived.Test.YtdlcmpbpdbpanaaDoorMB25
import Derived.Test.YtdlcmpbpdbpanaaDoorMB27
import Derived.Test.YtdlcmpbpdbpanaaDoorMB11
import Derived.BigQuiet
import Derived.IntWalk
import Derived.Maps.Own
import Derived.Maps.OwnOps
import Derived.Maps.OwnSet
import Derived.Maps.Views
namespace Go.Proofs.YtdlcmpbpdbpanaaDoor
open Go.RowKit Go.Sp
set_option maxHeartbeats 1000000
set_option maxRecDepth 20000

theorem sorted_at {xs : List Int} (h : xs.Pairwise (· ≤ ·)) {k : Nat} (hk : k + 1 < xs.length) : xs.getD k 0 ≤ xs.getD (k + 1) 0 := by
  have := List.pairwise_iff_getElem.1 h k (k + 1) (by omega) hk (by omega)
  simpa [hk, show k < xs.length by omega] using this

end Go.Proofs.YtdlcmpbpdbpanaaDoor
namespace Go.Proofs.YtdlcmpbpdbpanaaDoor
open Go.RowKit Go.Sp
set_option maxHeartbeats 1000000
set_option maxRecDepth 20000

theorem Elements_arg (P Q G : Int) (w : World) (hP : -9223372036854775808 ≤ P) (hQ : Q ≤ 9223372036854775807) (hT : Tab w) (hg : gvB P Q G = false) :
    Calls Tryd.prog 39 #[grp P Q G] w fun e w' => e = .returned (.tuple #[.slice none 0 0, .int .i64 1]) ∧ Up w w' := by
  have HT := hid hT
  have HG := hid hg
  clear hT hg
  go_enter Tryd.func39, Tryd.ntmps39
  go_wp2_with fail
  refine (Valid_any P Q G _ hP hQ (HT.out.up ((Up.refl w).alloc _))).mono ?_
  rintro e w1 ⟨rfl, hU1⟩
  rw [HG.out]
  go_wp2
  go_ret2
  exact ⟨rfl, ((Up.refl w).alloc _).trans hU1⟩

theorem Elements_big (P Q G : Int) (w : World) (hT : Tab w) (hg : gvB P Q G = true) (hQ : 1000 < Q) :
    Calls Tryd.prog 39 #[grp P Q G] w fun e w' => e = .returned (.tuple #[.slice none 0 0, .int .i64 9]) ∧ Up w w' := by
  have HT := hid hT
  have g := gv_iff.1 hg
  have g1 := g.P61
  have g2 := g.P4
  have g4 := g.QP
  have HG := hid hg
  have hd : decide (1000 < Q) = true := by simpa using hQ
  clear hT hg g
  go_enter Tryd.func39, Tryd.ntmps39
  go_wp2_with fail
  refine (Valid_any P Q G _ (by omega) (by omega) (HT.out.up ((Up.refl w).alloc _))).mono ?_
  rintro e w1 ⟨rfl, hU1⟩
  rw [HG.out]
  have HGA := hid (box_reads rfl hU1)
  obtain ⟨c0, c1, c2⟩ := HGA.out
  go_wp2
  go_ret2
  exact ⟨rfl, ((Up.refl w).alloc _).trans hU1⟩

end Go.Proofs.YtdlcmpbpdbpanaaDoor
namespace Go.Proofs.YtdlcmpbpdbpanaaDoor
open Go.RowKit Go.Sp
set_option maxHeartbeats 4000000
set_option maxRecDepth 20000

theorem one_resp {P Q G y c s t : Int} (hg : gvB P Q G = true) (hQ : Q < 1048576) (hy : elB P Q y = true) (h0 : 0 ≤ s) (h1 : s < Q) (t0 : 0 ≤ t) (t1 : t < Q) : frgV P Q G y c t = frgV P Q G y c s ↔ t = s := by
  have g := gv_iff.1 hg
  have g2 := g.P4
  have g3 := g.Q3
  constructor
  · intro h
    have e := congrArg (fun x => x * gpw P Q y c % P) h
    simp only [fits_back hg hy h0 h1, fits_back hg hy t0 t1] at e
    rw [gpw_sc t0 t1, gpw_sc h0 h1] at e
    have := pw_inj (show 2 ≤ P by omega) (prim_of g.pQ hQ) (gen_el hg).1 (gen_el hg).2 (i := t.toNat) (j := s.toNat) (by omega) (by omega) e
    omega
  · rintro rfl
    rfl
/-- Where a number lies in a list that grows. -/
theorem lone {xs : List Int} (h : xs.Pairwise (· < ·)) {r : Int} (hr : r ∈ xs) : ∃ k, k < xs.length ∧ ∀ j, j < xs.length → (xs.getD j 0 = r ↔ j = k) := by
  obtain ⟨k, hk, e⟩ := List.getElem_of_mem hr
  refine ⟨k, hk, fun j hj => ⟨fun h2 => ?_, fun h2 => ?_⟩⟩
  · have e2 : xs[j] = r := by simpa [hj] using h2
    rcases Nat.lt_trichotomy j k with h3 | h3 | h3
    · have := List.pairwise_iff_getElem.1 h j k hj hk h3
      omega
    · exact h3
    · have := List.pairwise_iff_getElem.1 h k j hk hj h3
      omega
  · subst h2
    simpa [hj] using e
def pastN (k i : Int) : Int := if k < i then 1 else 0
theorem pastN_hit {k : Int} : pastN k k = 0 ∧ pastN k (k + 1) = 1 := ⟨if_neg (by omega), if_pos (by omega)⟩
theorem pastN_same {k i : Int} (h : i ≠ k) : pastN k (i + 1) = pastN k i := by unfold pastN; congr 1; ext; omega
theorem pastN_zero {k : Int} (h : 0 ≤ k) : pastN k 0 = 0 := if_neg (by omega)
theorem pastN_end {k n : Int} (h : k < n) : pastN k n = 1 := if_pos h
end Go.Proofs.YtdlcmpbpdbpanaaDoor
namespace Go.Proofs.YtdlcmpbpdbpanaaDoor
open Go.Sp Go.Maps

/-- The map after n baby steps. -/
def baby (H : Type) (P b x : Int) : Nat → DataW H
  | 0 => .map []
  | n + 1 => (baby H P b x n).put (.int .i64 (x * pw b n P % P)) (.lit (.int .i64 n))

theorem baby_isMap (H : Type) (P b x : Int) : ∀ n, IsMap (baby H P b x n)
  | 0 => isMap_empty
  | n + 1 => (baby_isMap H P b x n).put _ _

theorem baby_has {H : Type} {P b x : Int} : ∀ (n : Nat) (z : Int), Maps.has (baby H P b x n) (.int .i64 z) = true → ∃ j, j < n ∧ z = x * pw b j P % P ∧ ∀ z0, (baby H P b x n).atKey (.int .i64 z) z0 = .lit (.int .i64 j)
  | 0, z, h => by simp [baby, Maps.has] at h
  | n + 1, z, h => by
    by_cases he : z = x * pw b n P % P
    · refine ⟨n, by omega, he, fun z0 => ?_⟩
      rw [he]
      exact atKey_put_same (k := .int .i64 (x * pw b n P % P)) (baby_isMap H P b x n) (show WideAt.IsKeyLit (.int .i64 (x * pw b n P % P)) from True.intro) _ _
    · have hne : Lit.int .i64 z ≠ Lit.int .i64 (x * pw b n P % P) := fun e => he (by injection e)
      rw [baby, has_put_other hne] at h
      obtain ⟨j, hj, hz, ha⟩ := baby_has n z h
      exact ⟨j, by omega, hz, fun z0 => by rw [baby, atKey_put_other hne]; exact ha z0⟩

theorem baby_there {H : Type} {P b x : Int} : ∀ (n j : Nat), j < n → Maps.has (baby H P b x n) (.int .i64 (x * pw b j P % P)) = true
  | n + 1, j, hj => by
    by_cases he : x * pw b j P % P = x * pw b n P % P
    · rw [he]
      exact has_put_same (k := .int .i64 (x * pw b n P % P)) (baby_isMap H P b x n) (show WideAt.IsKeyLit (.int .i64 (x * pw b n P % P)) from True.intro) _
    · have hne : Lit.int .i64 (x * pw b j P % P) ≠ Lit.int .i64 (x * pw b n P % P) := fun e => he (by injection e)
      rw [baby, has_put_other hne]
      refine baby_there n j ?_
      refine Nat.lt_of_le_of_ne (by omega) fun e => he (by rw [e])

/-- Where a giant step meets a baby step, the logarithm is their difference. -/
theorem meets {P Q b x : Int} (hP : 2 ≤ P) (hQ : 1 ≤ Q) (hb : elB P Q b = true) (hx : elB P Q x = true) {k j : Nat} (h : pw b (1024 * k) P = x * pw b j P % P) :
    pw b (((k : Int) * 1024 - j) % Q).toNat P = x := by
  have hbQ := (el_iff.1 hb).2.2
  obtain ⟨x0, x1, _⟩ := el_iff.1 hx
  -- b^(1024 k) * b^(Q-j mod ..) = x
  obtain ⟨t, ht⟩ : ∃ t : Nat, Q * (j : Int) - j = t := ⟨(Q * (j : Int) - j).toNat, by
    have : 1 * (j : Int) ≤ Q * j := Int.mul_le_mul_of_nonneg_right hQ (by omega)
    omega⟩
  have e1 : pw b (1024 * k + t) P = x := by
    rw [pw_add, h, emul (emod_self (x * pw b j P) P) (rfl : pw b t P % P = pw b t P % P), Int.mul_assoc, ← emul (rfl : x % P = x % P) (emod_self (pw b j P * pw b t P) P), ← pw_add]
    have : j + t = Q.toNat * j := by
      obtain ⟨q, rfl⟩ : ∃ q : Nat, Q = q := ⟨Q.toNat, by omega⟩
      rw [Int.toNat_natCast]
      have : ((j + t : Nat) : Int) = ((q * j : Nat) : Int) := by rw [Int.natCast_add, Int.natCast_mul]; omega
      exact_mod_cast this
    rw [this, pw_mul, hbQ, pw_one_base, Int.emod_eq_of_lt (show (0 : Int) ≤ 1 by omega) (by omega), Int.mul_one]
    exact Int.emod_eq_of_lt (by omega) x1
  rw [← e1, ← pw_mod hP hb (1024 * k + t)]
  congr 1
  obtain ⟨u, h1, e2⟩ := toNat_mod (x := (k : Int) * 1024 - j) hQ
  rw [h1]
  refine nat_of_int (Q := Q) (by omega) ?_
  rw [e2, show ((1024 * k + t : Nat) : Int) = ((k : Int) * 1024 - j) + Q * j by rw [Int.natCast_add, ← ht, Int.natCast_mul]; omega, Int.add_mul_emod_self_left]
end Go.Proofs.YtdlcmpbpdbpanaaDoor
