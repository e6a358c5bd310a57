/- The reference's elements of a small group. All elements of a small group: the powers of the generator, in order. The samples: lists of groups. The samples are valid groups: by the kernel's numbers. -/
import Derived.Test.YtdlcmpbpdbpanaaDoorMB10
import Derived.Test.YtdlcmpbpdbpanaaDoorMB14
import Derived.Test.YtdlcmpbpdbpanaaDoorMB25
import Derived.Test.YtdlcmpbpdbpanaaDoorMB26
import Derived.Test.YtdlcmpbpdbpanaaDoorMB15
import Derived.BigQuiet
namespace Go.Proofs.YtdlcmpbpdbpanaaDoor
open Go.RowKit Go.Sp
set_option maxHeartbeats 1000000
set_option maxRecDepth 20000

/-- The elements among 1 .. i. -/
def found (P Q : Int) (i : Nat) : List Int := ((List.range i).map fun (j : Nat) => (j : Int) + 1).filter (elB P Q)

theorem found_succ (P Q : Int) (i : Nat) : found P Q (i + 1) = found P Q i ++ (if elB P Q (i + 1) = true then [(i : Int) + 1] else []) := by
  unfold found
  rw [List.range_succ, List.map_append, List.filter_append]
  congr 1
  simp [List.filter_cons]

theorem found_length (P Q : Int) (i : Nat) : (found P Q i).length ≤ i := by
  unfold found
  exact Nat.le_trans (List.length_filter_le _ _) (by simp)

theorem found_prefix (P Q : Int) {i j : Nat} (h : i ≤ j) : (found P Q i) <+: (found P Q j) := by
  obtain ⟨d, rfl⟩ : ∃ d, j = i + d := ⟨j - i, by omega⟩
  induction d with
  | zero => exact List.prefix_refl _
  | succ d ih =>
    refine List.IsPrefix.trans (ih (by omega)) ?_
    rw [show i + (d + 1) = i + d + 1 by omega, found_succ]
    exact List.prefix_append _ _

def RefElemOut (P Q : Int) (w : World) (e : Ending) (w' : World) : Prop :=
  ∃ v, e = .returned v ∧ OwnI w' w.heap.size v (found P Q (P - 1).toNat) ∧ Up w w'

end Go.Proofs.YtdlcmpbpdbpanaaDoor
namespace Go.Proofs.YtdlcmpbpdbpanaaDoor
open Go.Sp

theorem prim_of {n : Int} (h : isP n = true) (hn : n < 1048576) : Prim n.toNat := by
  have h2 := isP_two h
  refine ⟨by omega, fun q hq hqq => small_prime ?_ (by omega) hq hqq⟩
  rw [show ((n.toNat : Nat) : Int) = n by omega]; exact h

theorem mem_found {P Q x : Int} {n : Nat} : x ∈ found P Q n ↔ 1 ≤ x ∧ x ≤ n ∧ elB P Q x = true := by
  unfold found
  rw [List.mem_filter, List.mem_map]
  constructor
  · rintro ⟨⟨j, hj, rfl⟩, h⟩
    have := List.mem_range.1 hj
    exact ⟨by omega, by omega, h⟩
  · rintro ⟨h1, h2, h⟩
    exact ⟨⟨(x - 1).toNat, List.mem_range.2 (by omega), by omega⟩, h⟩

theorem found_lt (P Q : Int) (n : Nat) : (found P Q n).Pairwise (· < ·) := by
  unfold found
  refine List.Pairwise.filter _ (List.pairwise_map.2 ?_)
  exact List.Pairwise.imp (fun h => by omega) (List.pairwise_lt_range (n := n))

theorem perm_of_nodup : ∀ {xs ys : List Int}, xs.Nodup → ys.Nodup → (∀ x, x ∈ xs ↔ x ∈ ys) → xs.Perm ys
  | [], ys, _, _, h => by
    have : ys = [] := List.eq_nil_iff_forall_not_mem.2 fun x hx => by have := (h x).2 hx; cases this
    rw [this]
  | x :: xs, ys, hx, hy, h => by
    obtain ⟨hn, hx⟩ := List.nodup_cons.1 hx
    have hxy : x ∈ ys := (h x).1 (by simp)
    refine List.Perm.trans (List.Perm.cons x (perm_of_nodup hx (hy.erase x) fun y => ?_)) (List.perm_cons_erase hxy).symm
    rw [hy.mem_erase_iff]
    constructor
    · intro hm
      exact ⟨fun e => hn (e ▸ hm), (h y).1 (by simp [hm])⟩
    · rintro ⟨hne, hm⟩
      rcases List.mem_cons.1 ((h y).2 hm) with e | hm
      · exact absurd e hne
      · exact hm

theorem el_range {P Q x : Int} (h : elB P Q x = true) : 1 ≤ x ∧ x < P := ⟨(el_iff.1 h).1, (el_iff.1 h).2.1⟩

/-- The elements of a small group, in order. -/
theorem found_eq {P Q G : Int} (hg : gvB P Q G = true) (hP : P < 1048576) {a : Int} (ha : elB P Q a = true) (h1 : a ≠ 1) : isort (powList P a Q.toNat) = found P Q (P - 1).toNat := by
  have g := gv_iff.1 hg
  have g2 := g.P4
  have g3 := g.Q3
  have g4 := g.QP
  have hp := prim_of g.pP hP
  have hq := prim_of g.pQ (by omega)
  refine isort_eq (List.Pairwise.imp (fun h => by omega) (found_lt P Q _)) ?_
  show (pows P Q a).Perm _
  refine perm_of_nodup (pows_nodup (by omega) hq ha h1) (List.Pairwise.imp (fun h => by omega) (found_lt P Q _)) fun x => ?_
  rw [mem_found]
  constructor
  · intro hm
    have h := of_mem_pows (by omega) (by omega) ha hm
    have := el_range h
    exact ⟨by omega, by omega, h⟩
  · rintro ⟨_, _, h⟩
    exact mem_pows hp hq ha h1 h

theorem gen_el {P Q G : Int} (hg : gvB P Q G = true) : elB P Q G = true ∧ G ≠ 1 := by
  have g := gv_iff.1 hg
  have g5 := g.G2
  exact ⟨el_iff.2 ⟨by omega, g.GP, g.GQ⟩, by omega⟩

theorem found_count {P Q G : Int} (hg : gvB P Q G = true) (hP : P < 1048576) : (found P Q (P - 1).toNat).length = Q.toNat := by
  obtain ⟨h1, h2⟩ := gen_el hg
  rw [← found_eq hg hP h1 h2, isort_length, powList]
  simp
end Go.Proofs.YtdlcmpbpdbpanaaDoor
namespace Go.Proofs.YtdlcmpbpdbpanaaDoor
open Go.RowKit Go.Sp
set_option maxHeartbeats 1000000
set_option maxRecDepth 20000

/-- A list of groups lies there. -/
def GrpsAt (w : World) (v : Value) (gs : List (Int × Int × Int)) : Prop :=
  gs.length ≤ 1000000 ∧ ∃ b cap, v = .slice (some ⟨b, 0, none⟩) gs.length cap ∧ b < w.heap.size ∧ ∀ i, i < gs.length →
    w.cell? ⟨b, i * 3, none⟩ = some (.int .i64 (gs.getD i (0, 0, 0)).1) ∧ w.cell? ⟨b, i * 3 + 1, none⟩ = some (.int .i64 (gs.getD i (0, 0, 0)).2.1) ∧ w.cell? ⟨b, i * 3 + 2, none⟩ = some (.int .i64 (gs.getD i (0, 0, 0)).2.2)

theorem GrpsAt.up {w w' : World} {v : Value} {gs : List (Int × Int × Int)} (h : GrpsAt w v gs) (hU : Up w w') : GrpsAt w' v gs := by
  obtain ⟨hl, b, cap, rfl, hb, hc⟩ := h
  refine ⟨hl, b, cap, rfl, Nat.lt_of_lt_of_le hb hU.size, fun i hi => ?_⟩
  obtain ⟨h0, h1, h2⟩ := hc i hi
  exact ⟨by rw [hU.cell hb]; exact h0, by rw [hU.cell hb]; exact h1, by rw [hU.cell hb]; exact h2⟩

def nine : List (Int × Int × Int) := [(7, 3, 2), (11, 5, 4), (23, 11, 4), (47, 23, 4), (107, 53, 4), (227, 113, 4), (2039, 1019, 4), (2097143, 1048571, 4), (2147483579, 1073741789, 4)]

def SamplesOut (w : World) (e : Ending) (w' : World) : Prop := ∃ v, e = .returned v ∧ GrpsAt w' v nine ∧ Up w w'


theorem nine_at (w : World) : GrpsAt (w.alloc (.cells #[.int .i64 7, .int .i64 3, .int .i64 2, .int .i64 11, .int .i64 5, .int .i64 4, .int .i64 23, .int .i64 11, .int .i64 4, .int .i64 47, .int .i64 23, .int .i64 4, .int .i64 107, .int .i64 53, .int .i64 4, .int .i64 227, .int .i64 113, .int .i64 4, .int .i64 2039, .int .i64 1019, .int .i64 4, .int .i64 2097143, .int .i64 1048571, .int .i64 4, .int .i64 2147483579, .int .i64 1073741789, .int .i64 4] 52)) (.slice (some ⟨w.heap.size, 0, none⟩) 9 9) nine := by
  refine ⟨by simp [nine], w.heap.size, 9, rfl, by simp, ?_⟩
  intro i hi
  have hk := alloc_at w (.cells #[.int .i64 7, .int .i64 3, .int .i64 2, .int .i64 11, .int .i64 5, .int .i64 4, .int .i64 23, .int .i64 11, .int .i64 4, .int .i64 47, .int .i64 23, .int .i64 4, .int .i64 107, .int .i64 53, .int .i64 4, .int .i64 227, .int .i64 113, .int .i64 4, .int .i64 2039, .int .i64 1019, .int .i64 4, .int .i64 2097143, .int .i64 1048571, .int .i64 4, .int .i64 2147483579, .int .i64 1073741789, .int .i64 4] 52) _ rfl
  generalize w.alloc (.cells #[.int .i64 7, .int .i64 3, .int .i64 2, .int .i64 11, .int .i64 5, .int .i64 4, .int .i64 23, .int .i64 11, .int .i64 4, .int .i64 47, .int .i64 23, .int .i64 4, .int .i64 107, .int .i64 53, .int .i64 4, .int .i64 227, .int .i64 113, .int .i64 4, .int .i64 2039, .int .i64 1019, .int .i64 4, .int .i64 2097143, .int .i64 1048571, .int .i64 4, .int .i64 2147483579, .int .i64 1073741789, .int .i64 4] 52) = w1 at hk ⊢
  have : i = 0 ∨ i = 1 ∨ i = 2 ∨ i = 3 ∨ i = 4 ∨ i = 5 ∨ i = 6 ∨ i = 7 ∨ i = 8 := by simp [nine] at hi; omega
  rcases this with rfl | rfl | rfl | rfl | rfl | rfl | rfl | rfl | rfl <;> exact ⟨by simp [World.cell?, hk, nine], by simp [World.cell?, hk, nine], by simp [World.cell?, hk, nine]⟩

def GoodL (gs : List (Int × Int × Int)) : Prop := ∀ i, i < gs.length → -9223372036854775808 ≤ (gs.getD i (0, 0, 0)).1 ∧ (gs.getD i (0, 0, 0)).2.1 ≤ 9223372036854775807 ∧ gvB (gs.getD i (0, 0, 0)).1 (gs.getD i (0, 0, 0)).2.1 (gs.getD i (0, 0, 0)).2.2 = true

end Go.Proofs.YtdlcmpbpdbpanaaDoor
namespace Go.Sp

def pmN (m : Nat) : Nat → Nat → Nat → Nat → Nat
  | 0, x, _, _ => x
  | f + 1, x, a, e => if e = 0 then x else pmN m f (if e % 2 = 1 then x * a % m else x) (a * a % m) (e / 2)

theorem pmN_spec {m : Nat} (hm : 0 < m) : ∀ (f x a e : Nat), e < 2 ^ f → x < m → pmN m f x a e = x * a ^ e % m
  | 0, x, a, e, he, hx => by
    have : e = 0 := by simpa using he
    subst this
    simp [pmN, Nat.mod_eq_of_lt hx]
  | f + 1, x, a, e, he, hx => by
    unfold pmN
    by_cases h0 : e = 0
    · subst h0; simp [Nat.mod_eq_of_lt hx]
    · rw [if_neg h0]
      have hlt : e / 2 < 2 ^ f := by rw [Nat.pow_succ] at he; omega
      have hsq : a ^ (2 * (e / 2)) = (a * a) ^ (e / 2) := by rw [Nat.pow_mul, Nat.pow_two]
      by_cases h1 : e % 2 = 1
      · rw [if_pos h1, pmN_spec hm f _ _ _ hlt (Nat.mod_lt _ hm)]
        have he2 : a ^ e = a * (a * a) ^ (e / 2) := by
          rw [← hsq, ← Nat.pow_succ', show (2 * (e / 2)).succ = e by omega]
        rw [he2, ← Nat.mul_assoc, Nat.mul_mod, Nat.mod_mod, ← Nat.pow_mod, ← Nat.mul_mod]
      · rw [if_neg h1, pmN_spec hm f _ _ _ hlt hx]
        have he2 : a ^ e = (a * a) ^ (e / 2) := by rw [← hsq, show 2 * (e / 2) = e by omega]
        rw [he2, Nat.mul_mod, ← Nat.pow_mod, ← Nat.mul_mod]

theorem pmN_one {n a d : Nat} (hn : 2 ≤ n) (hd : d < 2 ^ 64) : pmN n 64 1 a d = a ^ d % n := by
  rw [pmN_spec (by omega) 64 1 a d hd (by omega), Nat.one_mul]

def strongF (n a d s : Nat) : Bool := pmN n 64 1 a d == 1 || pmN n 64 1 a d == n - 1 || sqsN n (pmN n 64 1 a d) (s - 1)
def isPN (n : Nat) : Bool := Nat.ble 2 n && Nat.blt n (2 ^ 64) && (match trial baseList (n : Int) with | some b => b | none => primes12.all fun a => strongF n a ((n - 1) / 2 ^ Lib.ctz 64 (n - 1)) (Lib.ctz 64 (n - 1)))

theorem isP_fast {n : Nat} (h : isPN n = true) : isP (n : Int) = true := by
  simp only [isPN, Bool.and_eq_true, Nat.ble_eq, Nat.blt_eq] at h
  obtain ⟨⟨h2, h64⟩, h⟩ := h
  rw [isP, if_neg (by omega)]
  cases ht : trial baseList (n : Int) with
  | some b => rw [ht] at h; exact h
  | none =>
    rw [ht] at h
    have hN : ((n : Int) - 1).toNat = n - 1 := by omega
    rw [hN]
    have hb : baseList = primes12.map fun a => ((a : Nat) : Int) := by decide
    rw [hb, List.all_map]
    refine List.all_eq_true.2 fun a ha => ?_
    have := List.all_eq_true.1 h a ha
    show strongB (n : Int) (a : Int) _ _ = true
    rw [strong_nat (by omega)]
    rw [strongF, pmN_one h2 (Nat.lt_of_le_of_lt (Nat.div_le_self _ _) (by omega))] at this
    exact this

def gvN (P Q G : Nat) : Bool := Nat.blt P 2305843009213693952 && Nat.ble 3 Q && Q % 2 == 1 && isPN P && isPN Q && (P - 1) % Q == 0 && Nat.ble 2 G && Nat.blt G P && pmN P 64 1 G Q == 1

theorem gv_fast {P Q G : Nat} (h : gvN P Q G = true) : gvB P Q G = true := by
  simp only [gvN, Bool.and_eq_true, Nat.ble_eq, Nat.blt_eq, beq_iff_eq] at h
  obtain ⟨⟨⟨⟨⟨⟨⟨⟨h1, h2⟩, h3⟩, h4⟩, h5⟩, h6⟩, h7⟩, h8⟩, h9⟩ := h
  have hq : Q < 2 ^ 64 := by
    simp only [isPN, Bool.and_eq_true, Nat.ble_eq, Nat.blt_eq] at h5
    exact h5.1.2
  rw [pmN_one (by omega) hq] at h9
  have hpw : pw (G : Int) (Q : Int).toNat (P : Int) = 1 := by
    rw [pw, Int.toNat_natCast, ← Int.natCast_pow, ← Int.natCast_emod, h9]; rfl
  have hdv : ((P : Int) - 1) % (Q : Int) = 0 := by
    rw [show (P : Int) - 1 = ((P - 1 : Nat) : Int) by omega, ← Int.natCast_emod, h6]; rfl
  simp only [gvB, Bool.and_eq_true, decide_eq_true_eq]
  exact ⟨⟨⟨⟨⟨⟨⟨⟨by omega, by omega⟩, by omega⟩, isP_fast h4⟩, isP_fast h5⟩, hdv⟩, by omega⟩, by omega⟩, hpw⟩
end Go.Sp
namespace Go.Proofs.YtdlcmpbpdbpanaaDoor
open Go.Sp
set_option maxRecDepth 20000 in
theorem nine_good : GoodL nine := by
  have key : ∀ i, i < 9 → gvB (nine.getD i (0, 0, 0)).1 (nine.getD i (0, 0, 0)).2.1 (nine.getD i (0, 0, 0)).2.2 = true := by
    intro i hi
    have : i = 0 ∨ i = 1 ∨ i = 2 ∨ i = 3 ∨ i = 4 ∨ i = 5 ∨ i = 6 ∨ i = 7 ∨ i = 8 := by omega
    rcases this with rfl | rfl | rfl | rfl | rfl | rfl | rfl | rfl | rfl
    · exact gv_fast (P := 7) (Q := 3) (G := 2) (by decide +kernel)
    · exact gv_fast (P := 11) (Q := 5) (G := 4) (by decide +kernel)
    · exact gv_fast (P := 23) (Q := 11) (G := 4) (by decide +kernel)
    · exact gv_fast (P := 47) (Q := 23) (G := 4) (by decide +kernel)
    · exact gv_fast (P := 107) (Q := 53) (G := 4) (by decide +kernel)
    · exact gv_fast (P := 227) (Q := 113) (G := 4) (by decide +kernel)
    · exact gv_fast (P := 2039) (Q := 1019) (G := 4) (by decide +kernel)
    · exact gv_fast (P := 2097143) (Q := 1048571) (G := 4) (by decide +kernel)
    · exact gv_fast (P := 2147483579) (Q := 1073741789) (G := 4) (by decide +kernel)
  intro i hi
  have h := key i (by simpa [nine] using hi)
  have g := gv_iff.1 h
  have := g.P4
  have := g.QP
  have := g.P61
  exact ⟨by omega, by omega, h⟩
end Go.Proofs.YtdlcmpbpdbpanaaDoor
