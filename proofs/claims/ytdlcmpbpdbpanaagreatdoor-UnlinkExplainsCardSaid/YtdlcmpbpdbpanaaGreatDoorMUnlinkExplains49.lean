/- Slices of integers of the call's own: what an append leaves. Primes; at most Q roots; all elements are powers. -/
import Derived.Test.YtdlcmpbpdbpanaaGreatDoorMUnlinkExplains9
import Derived.Test.YtdlcmpbpdbpanaaGreatDoorMUnlinkExplains8
import Derived.Test.YtdlcmpbpdbpanaaGreatDoorMUnlinkExplains19
namespace Go.Proofs.YtdlcmpbpdbpanaaGreatDoor
open Go.RowKit Go.Sp

theorem OwnI.shape {w : World} {base : Nat} {v : Value} {xs : List Int} (h : OwnI w base v xs) : ∃ p cap, v = .slice p xs.length cap := by
  rcases h.2 with ⟨hv, hn⟩ | ⟨g, cap, cur, rfl, _⟩
  · exact ⟨none, 0, by rw [hv, hn]⟩
  · exact ⟨_, cap, rfl⟩

theorem OwnI.block {w : World} {base : Nat} {v : Value} {xs : List Int} (h : OwnI w base v xs) (k : Nat) (hk : v.ownBlock = some k) : base ≤ k := by
  rcases h.2 with ⟨hv, _⟩ | ⟨g, cap, cur, rfl, hb, _⟩
  · rw [hv] at hk; cases hk
  · simp [Value.ownBlock] at hk; omega

theorem GrpAt.below {w w' : World} {B b : Nat} {P Q G : Int} (h : GrpAt w b P Q G) (hb : b < B) (hU : Below B w w') : GrpAt w' b P Q G := by
  obtain ⟨q0, q1, q2⟩ := h
  exact ⟨by rw [hU.cell hb]; exact q0, by rw [hU.cell hb]; exact q1, by rw [hU.cell hb]; exact q2⟩

/-- What an append of one number to a list of one's own leaves. -/
theorem appended {w w1 w2 : World} {base n : Nat} {v v' : Value} {xs : List Int} {x : Int} {o : Obj} (hl : xs.length = n) (h : OwnI w1 base v xs) (hown : w2.ownsRow base 3 1 v' (n + 1) (xs.map (Value.int .i64) ++ [Value.int .i64 x])) (hgr : (w1.alloc o).grownBy w2 v.ownBlock) (hU : Up w w1) (hw : w.heap.size ≤ base) (hb : base ≤ w1.heap.size) :
    OwnI w2 base v' (xs ++ [x]) ∧ Up w w2 ∧ Below base w1 w2 := by
  refine ⟨?_, up_grown (hU.alloc _) hgr fun k hk => Nat.le_trans hw (h.block k hk), Below.grown (Below.alloc (Below.refl base w1) hb o) hgr (by simp; omega) fun k hk => h.block k hk⟩
  unfold OwnI
  rw [List.length_append, hl, List.map_append]
  exact hown

theorem OwnI.row {w : World} {base n : Nat} {v : Value} {xs : List Int} (h : OwnI w base v xs) (hl : xs.length = n) : w.ownsRow base 3 1 v n (xs.map (Value.int .i64)) := by
  subst hl
  exact h

theorem OwnI.slice {w : World} {base : Nat} {v : Value} {xs : List Int} (h : OwnI w base v xs) : ∃ p n cap, v = .slice p n cap := by
  obtain ⟨p, cap, hv⟩ := h.shape
  exact ⟨p, _, cap, hv⟩
end Go.Proofs.YtdlcmpbpdbpanaaGreatDoor
namespace Go.Sp

/-- A prime. -/
def Prim (n : Nat) : Prop := 2 ≤ n ∧ ∀ q, 2 ≤ q → q * q ≤ n → ¬ q ∣ n

theorem Prim.div {n g : Nat} (h : Prim n) (hg : g ∣ n) : g = 1 ∨ g = n := by
  obtain ⟨c, hc⟩ := hg
  have h2 := h.1
  by_cases g1 : g = 1
  · exact Or.inl g1
  by_cases c1 : c = 1
  · right; rw [hc, c1, Nat.mul_one]
  have g0 : g ≠ 0 := fun h0 => by rw [h0, Nat.zero_mul] at hc; omega
  have c0 : c ≠ 0 := fun h0 => by rw [h0, Nat.mul_zero] at hc; omega
  exfalso
  rcases Nat.le_total g c with hle | hle
  · exact h.2 g (by omega) (by rw [hc]; exact Nat.mul_le_mul_left g hle) ⟨c, hc⟩
  · exact h.2 c (by omega) (by rw [hc]; exact Nat.mul_le_mul_right c hle) ⟨g, by rw [hc, Nat.mul_comm]⟩

theorem Prim.eu {n a b : Nat} (h : Prim n) (hd : n ∣ a * b) : n ∣ a ∨ n ∣ b := by
  rcases h.div (Nat.gcd_dvd_left n a) with h1 | h1
  · exact Or.inr ((show Nat.Coprime n a from h1).dvd_of_dvd_mul_left hd)
  · left; rw [← h1]; exact Nat.gcd_dvd_right n a

theorem Prim.eui {n : Nat} {a b : Int} (h : Prim n) (hd : (n : Int) ∣ a * b) : (n : Int) ∣ a ∨ (n : Int) ∣ b := by
  have h1 : n ∣ a.natAbs * b.natAbs := by
    rw [← Int.natAbs_mul]
    exact Int.ofNat_dvd_left.1 hd
  rcases h.eu h1 with h2 | h2
  · exact Or.inl (Int.ofNat_dvd_left.2 h2)
  · exact Or.inr (Int.ofNat_dvd_left.2 h2)

/-- A polynomial of degree n, the leading coefficient 1. -/
def Monic : Nat → (Int → Int) → Prop
  | 0, f => ∀ x, f x = 1
  | n + 1, f => ∃ c g, Monic n g ∧ ∀ x, f x = c + x * g x

theorem Monic.low : ∀ (n : Nat) (f h : Int → Int) (r : Int), Monic (n + 1) f → Monic n h → Monic (n + 1) (fun x => f x + r * h x)
  | 0, f, h, r, ⟨c, g, hg, hf⟩, hh => ⟨c + r, g, hg, fun x => by simp only [hf x, hh x]; omega⟩
  | n + 1, f, h, r, ⟨c, g, hg, hf⟩, ⟨d, k, hk, hh⟩ => ⟨c + r * d, _, Monic.low n g k r hg hk, fun x => by simp only [hf x, hh x]; grind⟩

theorem Monic.split : ∀ (n : Nat) (f : Int → Int) (r : Int), Monic (n + 1) f → ∃ g, Monic n g ∧ ∀ x, f x - f r = (x - r) * g x
  | 0, f, r, ⟨c, g, hg, hf⟩ => ⟨g, hg, fun x => by rw [hf x, hf r, hg x, hg r]; omega⟩
  | n + 1, f, r, ⟨c, g, hg, hf⟩ => by
    obtain ⟨h, hh, he⟩ := Monic.split n g r hg
    refine ⟨_, Monic.low n g h r hg hh, fun x => ?_⟩
    have := he x
    rw [hf x, hf r]
    grind

theorem Monic.roots {P : Nat} (hP : Prim P) : ∀ (n : Nat) (f : Int → Int), Monic n f → ∀ xs : List Int, xs.Nodup → (∀ x ∈ xs, 0 ≤ x ∧ x < P ∧ (P : Int) ∣ f x) → xs.length ≤ n
  | 0, f, hf, [], _, _ => by simp
  | 0, f, hf, x :: xs, _, hx => by
    obtain ⟨_, _, h⟩ := hx x (by simp)
    rw [hf x] at h
    have := Int.le_of_dvd (by omega) h
    have := hP.1
    omega
  | n + 1, f, hf, [], _, _ => by simp
  | n + 1, f, hf, r :: xs, hn, hx => by
    obtain ⟨g, hg, he⟩ := Monic.split n f r hf
    obtain ⟨hr, hn⟩ := List.nodup_cons.1 hn
    have := Monic.roots hP n g hg xs hn fun x hxm => by
      obtain ⟨r0, r1, rd⟩ := hx r (by simp)
      obtain ⟨x0, x1, xd⟩ := hx x (by simp [hxm])
      refine ⟨x0, x1, ?_⟩
      have hd : (P : Int) ∣ (x - r) * g x := by rw [← he x]; exact Int.dvd_sub xd rd
      rcases hP.eui hd with h | h
      · exfalso
        obtain ⟨k, hk⟩ := h
        have : x ≠ r := fun e => hr (e ▸ hxm)
        have hk0 : k = 0 := by
          refine Int.le_antisymm (Int.not_lt.1 fun hlt => ?_) (Int.not_lt.1 fun hlt => ?_)
          · have : (P : Int) * 1 ≤ P * k := Int.mul_le_mul_of_nonneg_left (by omega) (by omega)
            omega
          · have : (P : Int) * k ≤ P * (-1) := Int.mul_le_mul_of_nonneg_left (by omega) (by omega)
            omega
        rw [hk0] at hk; omega
      · exact h
    simp; omega

theorem monic_pow : ∀ n : Nat, Monic n (fun x => x ^ n)
  | 0 => fun x => by simp
  | n + 1 => ⟨0, fun x => x ^ n, monic_pow n, fun x => by simp only [Int.pow_succ]; rw [Int.mul_comm]; omega⟩

theorem monic_root {n : Nat} (hn : 1 ≤ n) : Monic n (fun x => x ^ n - 1) := by
  obtain ⟨m, rfl⟩ : ∃ m, n = m + 1 := ⟨n - 1, by omega⟩
  obtain ⟨c, g, hg, hf⟩ := monic_pow (m + 1)
  exact ⟨c - 1, g, hg, fun x => by have := hf x; simp only at this ⊢; omega⟩

/-- At most Q residues have the Q-th power 1. -/
theorem few_roots {P Q : Int} (hP : Prim P.toNat) (hQ : 1 ≤ Q) (xs : List Int) (hn : xs.Nodup) (hx : ∀ x ∈ xs, elB P Q x = true) : xs.length ≤ Q.toNat := by
  have h2 := hP.1
  refine Monic.roots hP Q.toNat _ (monic_root (by omega)) xs hn fun x hm => ?_
  obtain ⟨x0, x1, x2⟩ := el_iff.1 (hx x hm)
  refine ⟨by omega, by omega, ?_⟩
  rw [show ((P.toNat : Nat) : Int) = P by omega]
  rw [pw] at x2
  exact Int.dvd_of_emod_eq_zero (by rw [Int.sub_emod, x2]; simp)

/-- A power that is 1 divides: of a prime order. -/
theorem pw_one_of {P Q a : Int} (hP : 2 ≤ P) (hQ : Prim Q.toNat) (ha : elB P Q a = true) {k : Nat} (h0 : 0 < k) (h1 : k < Q.toNat) (hk : pw a k P = 1) : a = 1 := by
  obtain ⟨a0, a1, a2⟩ := el_iff.1 ha
  have hE : ∃ o : Nat, 0 < o ∧ pw a o P = 1 := ⟨k, h0, hk⟩
  have low : ∀ m : Nat, 0 < m → pw a m P = 1 → ∃ o, 0 < o ∧ o ≤ m ∧ pw a o P = 1 ∧ ∀ j, 0 < j → j < o → pw a j P ≠ 1 := by
    intro m
    induction m using Nat.strongRecOn with
    | _ m ih =>
      intro hm h
      by_cases hj : ∃ j, 0 < j ∧ j < m ∧ pw a j P = 1
      · obtain ⟨j, j0, j1, j2⟩ := hj
        obtain ⟨o, h1, h2, h3⟩ := ih j j1 j0 j2
        exact ⟨o, h1, by omega, h3⟩
      · exact ⟨m, hm, by omega, h, fun j j0 j1 j2 => hj ⟨j, j0, j1, j2⟩⟩
  obtain ⟨o, o0, o1, o2, o3⟩ := low k h0 hk
  have dv : ∀ m : Nat, pw a m P = 1 → o ∣ m := by
    intro m hm
    refine Nat.dvd_of_mod_eq_zero ?_
    refine Nat.eq_zero_of_not_pos fun hp => o3 _ hp (Nat.mod_lt _ o0) ?_
    rw [← Nat.div_add_mod m o, pw_add, pw_mul, o2, pw_one_base, Int.emod_eq_of_lt (show (0 : Int) ≤ 1 by omega) (by omega), Int.one_mul] at hm
    rw [← hm]
    exact (emod_self _ _).symm
  rcases hQ.div (dv _ a2) with h | h
  · rw [h] at o2
    rwa [pw_one_exp (by omega) a1] at o2
  · omega

theorem pw_inj {P Q a : Int} (hP : 2 ≤ P) (hQ : Prim Q.toNat) (ha : elB P Q a = true) (h1 : a ≠ 1) {i j : Nat} (hi : i < Q.toNat) (hj : j < Q.toNat) (h : pw a i P = pw a j P) : i = j := by
  have key : ∀ i j : Nat, i < j → j < Q.toNat → pw a i P = pw a j P → False := by
    intro i j hij hj h
    refine h1 (pw_one_of hP hQ ha (k := j - i) (by omega) (by omega) ?_)
    have h2 : pw a (Q.toNat - i) P * pw a i P % P = pw a (Q.toNat - i) P * pw a j P % P := by rw [h]
    rw [← pw_add, ← pw_add, show Q.toNat - i + i = Q.toNat by omega, show Q.toNat - i + j = Q.toNat + (j - i) by omega, pw_add, (el_iff.1 ha).2.2, Int.one_mul] at h2
    rw [h2]
    exact (emod_self _ _).symm
  rcases Nat.lt_trichotomy i j with h2 | h2 | h2
  · exact (key i j h2 hj h).elim
  · exact h2
  · exact (key j i h2 hi h.symm).elim

/-- The powers of an element. -/
def pows (P Q a : Int) : List Int := (List.range Q.toNat).map fun i => pw a i P

theorem pows_nodup {P Q a : Int} (hP : 2 ≤ P) (hQ : Prim Q.toNat) (ha : elB P Q a = true) (h1 : a ≠ 1) : (pows P Q a).Nodup := by
  unfold pows
  rw [List.nodup_iff_pairwise_ne, List.pairwise_map]
  refine List.Pairwise.imp_of_mem ?_ List.nodup_range
  intro i j hi hj hne h
  exact hne (pw_inj hP hQ ha h1 (List.mem_range.1 hi) (List.mem_range.1 hj) h)

/-- All elements are powers of one other than 1. -/
theorem mem_pows {P Q a x : Int} (hP : Prim P.toNat) (hQ : Prim Q.toNat) (ha : elB P Q a = true) (h1 : a ≠ 1) (hx : elB P Q x = true) : x ∈ pows P Q a := by
  have p2 := hP.1
  have q2 := hQ.1
  refine Classical.byContradiction fun hn => ?_
  have := few_roots (P := P) (Q := Q) hP (by omega) (x :: pows P Q a) (List.nodup_cons.2 ⟨hn, pows_nodup (by omega) hQ ha h1⟩) (by
    intro y hy
    rcases List.mem_cons.1 hy with rfl | hy
    · exact hx
    · obtain ⟨i, _, rfl⟩ := List.mem_map.1 hy
      exact el_pw (by omega) (by omega) ha i)
  simp [pows] at this
  omega

theorem of_mem_pows {P Q a x : Int} (hP : 2 ≤ P) (hQ : 1 ≤ Q) (ha : elB P Q a = true) (hx : x ∈ pows P Q a) : elB P Q x = true := by
  obtain ⟨i, _, rfl⟩ := List.mem_map.1 hx
  exact el_pw hP hQ ha i
end Go.Sp
