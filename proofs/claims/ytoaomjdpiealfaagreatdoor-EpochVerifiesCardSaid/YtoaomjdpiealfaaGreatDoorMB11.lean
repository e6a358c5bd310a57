/- Plain facts on elements of a group. The laws of exponents. Products of powers: the plain side. Package product: exponents, elements, products of powers. Package product and specieref12: products of powers, products of elements. -/
import Derived.Test.YtoaomjdpiealfaaGreatDoorMB1
import Derived.Test.YtoaomjdpiealfaaGreatDoorMB3
import Derived.Test.YtoaomjdpiealfaaGreatDoorMB4
import Derived.Deep.RegionWith
namespace Go.Sp

theorem pow_zero_base (n : Nat) (h : 1 ≤ n) : (0 : Int) ^ n = 0 := by
  obtain ⟨k, rfl⟩ : ∃ k, n = k + 1 := ⟨n - 1, by omega⟩
  rw [Int.pow_succ]; simp

theorem pw_one_exp {a P : Int} (h0 : 0 ≤ a) (h1 : a < P) : pw a 1 P = a := by
  rw [pw, show a ^ 1 = a by rw [Int.pow_succ]; simp, Int.emod_eq_of_lt h0 h1]

/-- A residue whose power is 1 is an element. -/
theorem el_of {P Q x : Int} (hP : 2 ≤ P) (hQ : 1 ≤ Q) (h : pw (x % P) Q.toNat P = 1) : elB P Q (x % P) = true := by
  have r0 := Int.emod_nonneg x (show P ≠ 0 by omega)
  have r1 := Int.emod_lt_of_pos x (show 0 < P by omega)
  refine el_iff.2 ⟨?_, r1, h⟩
  refine Int.not_lt.1 fun hlt => ?_
  have hz : x % P = 0 := by omega
  rw [hz, pw, pow_zero_base _ (by omega)] at h
  simp at h

theorem el_mul {P Q a b : Int} (hP : 2 ≤ P) (hQ : 1 ≤ Q) (ha : elB P Q a = true) (hb : elB P Q b = true) : elB P Q (a * b % P) = true := by
  refine el_of hP hQ ?_
  rw [pw_prod, (el_iff.1 ha).2.2, (el_iff.1 hb).2.2]
  exact Int.emod_eq_of_lt (by omega) (by omega)

theorem el_pw {P Q a : Int} (hP : 2 ≤ P) (hQ : 1 ≤ Q) (ha : elB P Q a = true) (n : Nat) : elB P Q (pw a n P) = true := by
  refine el_of hP hQ ?_
  show pw (pw a n P) Q.toNat P = 1
  rw [← pw_mul, Nat.mul_comm, pw_mul, (el_iff.1 ha).2.2, pw_one_base]
  exact Int.emod_eq_of_lt (by omega) (by omega)

theorem el_one {P Q : Int} (hP : 2 ≤ P) : elB P Q 1 = true := by
  refine el_iff.2 ⟨by omega, by omega, ?_⟩
  rw [pw_one_base]
  exact Int.emod_eq_of_lt (by omega) (by omega)

theorem mul_assoc' (a b c P : Int) : (a * b % P) * c % P = a * (b * c % P) % P := by
  rw [emul (emod_self (a * b) P) (rfl : c % P = c % P), emul (rfl : a % P = a % P) (emod_self (b * c) P), Int.mul_assoc]

/-- Powers of an element go by the order. -/
theorem pw_mod {P Q a : Int} (hP : 2 ≤ P) (ha : elB P Q a = true) (n : Nat) : pw a (n % Q.toNat) P = pw a n P := by
  have h := (el_iff.1 ha).2.2
  conv => rhs; rw [← Nat.div_add_mod n Q.toNat, pw_add, pw_mul, h, pw_one_base]
  rw [Int.emod_eq_of_lt (show (0 : Int) ≤ 1 by omega) (by omega), Int.one_mul]
  exact (emod_self _ _).symm

end Go.Sp
namespace Go.Proofs.YtoaomjdpiealfaaGreatDoor
open Go.Sp

theorem toNat_mod {x Q : Int} (hQ : 1 ≤ Q) : ∃ k : Nat, (x % Q).toNat = k ∧ (k : Int) = x % Q := by
  have := Int.emod_nonneg x (show Q ≠ 0 by omega)
  exact ⟨_, rfl, by omega⟩

theorem nat_of_int {a b q : Nat} {Q : Int} (hQ : Q = (q : Int)) (h : (a : Int) = (b : Int) % Q) : a = b % q := by
  subst hQ
  have : ((b % q : Nat) : Int) = (b : Int) % (q : Int) := Int.natCast_emod b q
  omega

theorem gpw_add {P Q a : Int} (hP : 2 ≤ P) (hQ : 1 ≤ Q) (ha : elB P Q a = true) (m n : Int) : gpw P Q a m * gpw P Q a n % P = gpw P Q a (m + n) := by
  unfold gpw
  obtain ⟨i, h1, e1⟩ := toNat_mod (x := m) hQ
  obtain ⟨j, h2, e2⟩ := toNat_mod (x := n) hQ
  obtain ⟨k, h3, e3⟩ := toNat_mod (x := m + n) hQ
  rw [h1, h2, h3, ← pw_add, ← pw_mod hP ha (i + j)]
  congr 1
  refine (nat_of_int (Q := Q) (by omega) ?_).symm
  rw [e3, Int.natCast_add, e1, e2, ← Int.add_emod]

theorem gpw_mul {P Q a : Int} (hP : 2 ≤ P) (hQ : 1 ≤ Q) (ha : elB P Q a = true) (m n : Int) : gpw P Q (gpw P Q a m) n = gpw P Q a (m * n) := by
  unfold gpw
  obtain ⟨i, h1, e1⟩ := toNat_mod (x := m) hQ
  obtain ⟨j, h2, e2⟩ := toNat_mod (x := n) hQ
  obtain ⟨k, h3, e3⟩ := toNat_mod (x := m * n) hQ
  rw [h1, h2, h3, ← pw_mul, ← pw_mod hP ha (i * j)]
  congr 1
  refine (nat_of_int (Q := Q) (by omega) ?_).symm
  rw [e3, Int.natCast_mul, e1, e2, ← Int.mul_emod]

theorem gpw_neg {P Q a : Int} (hQ : 1 ≤ Q) : gpw P Q a (-1) = pw a (Q.toNat - 1) P := by
  unfold gpw
  congr 1
  have : (-1 : Int) % Q = Q - 1 := by
    rw [← Int.add_emod_right (-1) Q, Int.emod_eq_of_lt (by omega) (by omega)]; omega
  omega

theorem gpw_mod {P Q a : Int} (hQ : 1 ≤ Q) (m : Int) : gpw P Q a (m.tmod Q) = gpw P Q a m := by
  unfold gpw
  congr 2
  rcases tmod_cases m Q hQ with ⟨_, h, _⟩ | ⟨_, h⟩
  · rw [show m.tmod Q = m % Q - Q by omega, Int.sub_emod_right, emod_self]
  · rw [h, emod_self]

theorem gpw_el {P Q a : Int} (hP : 2 ≤ P) (hQ : 1 ≤ Q) (ha : elB P Q a = true) (m : Int) : elB P Q (gpw P Q a m) = true := el_pw hP hQ ha _

theorem gpw_base_mod {P Q a m n : Int} (h : m % Q = n % Q) : gpw P Q a m = gpw P Q a n := by
  unfold gpw; rw [h]
end Go.Proofs.YtoaomjdpiealfaaGreatDoor
namespace Go.Proofs.YtoaomjdpiealfaaGreatDoor
open Go.Sp

/-- An exponent. -/
def exB (Q e : Int) : Bool := decide (0 ≤ e) && decide (e < Q)

/-- The product of powers, onto a first factor. -/
def pfold (P Q : Int) : Int → List Int → List Int → Int
  | a, b :: bs, e :: es => pfold P Q (a * gpw P Q b e % P) bs es
  | a, _, _ => a

/-- The product of elements, onto a first factor. -/
def jfold (P : Int) : Int → List Int → Int
  | a, b :: bs => jfold P (a * b % P) bs
  | a, [] => a

theorem exB_iff {Q e : Int} : exB Q e = true ↔ 0 ≤ e ∧ e < Q := by simp [exB]

theorem pfold_el {P Q : Int} (hP : 2 ≤ P) (hQ : 1 ≤ Q) : ∀ (bs es : List Int) (a : Int), elB P Q a = true → (∀ b ∈ bs, elB P Q b = true) → elB P Q (pfold P Q a bs es) = true
  | [], _, a, ha, _ => by simpa [pfold] using ha
  | b :: bs, [], a, ha, _ => by simpa [pfold] using ha
  | b :: bs, e :: es, a, ha, hb => by
    rw [pfold]
    exact pfold_el hP hQ bs es _ (el_mul hP hQ ha (gpw_el hP hQ (hb b (by simp)) e)) fun x hx => hb x (by simp [hx])

theorem jfold_el {P Q : Int} (hP : 2 ≤ P) (hQ : 1 ≤ Q) : ∀ (bs : List Int) (a : Int), elB P Q a = true → (∀ b ∈ bs, elB P Q b = true) → elB P Q (jfold P a bs) = true
  | [], a, ha, _ => by simpa [jfold] using ha
  | b :: bs, a, ha, hb => by
    rw [jfold]
    exact jfold_el hP hQ bs _ (el_mul hP hQ ha (hb b (by simp))) fun x hx => hb x (by simp [hx])

/-- The first factor goes out of the product. -/
theorem pfold_out {P Q : Int} : ∀ (bs es : List Int) (a c : Int), pfold P Q (a * c % P) bs es % P = a * pfold P Q c bs es % P
  | [], es, a, c => by simp [pfold]
  | b :: bs, [], a, c => by simp [pfold]
  | b :: bs, e :: es, a, c => by
    rw [pfold, pfold, mul_assoc', pfold_out bs es a]

theorem jfold_out {P : Int} : ∀ (bs : List Int) (a c : Int), jfold P (a * c % P) bs % P = a * jfold P c bs % P
  | [], a, c => by simp [jfold]
  | b :: bs, a, c => by rw [jfold, jfold, mul_assoc', jfold_out bs a]

theorem el_lt {P Q a : Int} (h : elB P Q a = true) : a % P = a := by
  obtain ⟨h0, h1, _⟩ := el_iff.1 h
  exact Int.emod_eq_of_lt (by omega) h1

/-- The product of powers is the product of the powers. -/
theorem jfold_map {P Q : Int} : ∀ (bs es : List Int) (a : Int), bs.length = es.length → jfold P a ((bs.zip es).map fun x => gpw P Q x.1 x.2) = pfold P Q a bs es
  | [], [], a, _ => rfl
  | b :: bs, e :: es, a, h => by
    rw [List.zip_cons_cons, List.map_cons, jfold, pfold]
    exact jfold_map bs es _ (by simpa using h)

/-- The error of a product. -/
def prE (P Q G : Int) (bs es : List Int) : Int :=
  if gvB P Q G = true ∧ bs.length = es.length then (if 100 < bs.length then 5 else if bs.all (elB P Q) = true ∧ es.all (exB Q) = true then 0 else 2) else 1
def prV (P Q G : Int) (bs es : List Int) : Int := if prE P Q G bs es = 0 then pfold P Q 1 bs es else 0

theorem prE_zero {P Q G : Int} {bs es : List Int} : prE P Q G bs es = 0 ↔ gvB P Q G = true ∧ bs.length = es.length ∧ bs.length ≤ 100 ∧ (∀ b ∈ bs, elB P Q b = true) ∧ ∀ e ∈ es, exB Q e = true := by
  unfold prE
  by_cases h : gvB P Q G = true ∧ bs.length = es.length
  · rw [if_pos h]
    by_cases h2 : 100 < bs.length
    · rw [if_pos h2]
      constructor
      · intro h; omega
      · rintro ⟨_, _, h3, _⟩; omega
    · rw [if_neg h2]
      by_cases h3 : bs.all (elB P Q) = true ∧ es.all (exB Q) = true
      · rw [if_pos h3]
        exact ⟨fun _ => ⟨h.1, h.2, by omega, List.all_eq_true.1 h3.1, List.all_eq_true.1 h3.2⟩, fun _ => rfl⟩
      · rw [if_neg h3]
        constructor
        · intro h; omega
        · rintro ⟨_, _, _, h4, h5⟩
          exact absurd ⟨List.all_eq_true.2 h4, List.all_eq_true.2 h5⟩ h3
  · rw [if_neg h]
    constructor
    · intro h; omega
    · rintro ⟨h1, h2, _⟩
      exact absurd ⟨h1, h2⟩ h

/-- The error of a product of elements. -/
def joE (P Q G : Int) (l : List Int) : Int := if gvB P Q G = true then (if 1000 < l.length then 5 else if l.all (elB P Q) = true then 0 else 2) else 1
def joV (P Q G : Int) (l : List Int) : Int := if joE P Q G l = 0 then jfold P 1 l else 0
end Go.Proofs.YtoaomjdpiealfaaGreatDoor
namespace Go.Proofs.YtoaomjdpiealfaaGreatDoor
open Go.RowKit Go.Sp
set_option maxHeartbeats 1000000
set_option maxRecDepth 20000

theorem exps_in (P Q G x : Int) (b : Nat) (w : World) (hb : GrpAt w b P Q G) :
    Calls Tryz.prog 195 #[.int .i64 x, .pointer (some ⟨b, 0, none⟩)] w fun e w' => e = .returned (.bool (!exB Q x)) ∧ Up w w' := by
  obtain ⟨c0, c1, c2⟩ := hb
  by_cases h0 : x < 0
  · have hB : exB Q x = false := by simp [exB]; omega
    have hd : decide (x < 0) = true := by simpa using h0
    rw [hB]
    go_enter Tryz.func195, Tryz.ntmps195
    go_wp2
    go_ret
    exact ⟨rfl, Up.refl w⟩
  · have hd : decide (x < 0) = false := by simpa using h0
    have hB : exB Q x = decide (x < Q) := by simp [exB]; omega
    rw [hB]
    by_cases h1 : x < Q
    · have d1 : decide (Q ≤ x) = false := by simp; omega
      have d2 : decide (x < Q) = true := by simpa using h1
      go_enter Tryz.func195, Tryz.ntmps195
      go_wp2
      go_ret
      exact ⟨rfl, Up.refl w⟩
    · have d1 : decide (Q ≤ x) = true := by simp; omega
      have d2 : decide (x < Q) = false := by simpa using h1
      go_enter Tryz.func195, Tryz.ntmps195
      go_wp2
      go_ret
      exact ⟨rfl, Up.refl w⟩

theorem exponents_any (P Q G : Int) (v : Value) (xs : List Int) (w : World) (hv : IntsAt w v xs) :
    Calls Tryz.prog 144 #[grp P Q G, v] w fun e w' => e = .returned (.bool (xs.all (exB Q))) ∧ Up w w' := by
  have HV := hid hv
  obtain ⟨C, hC⟩ : ∃ C, xs.all (exB Q) = C := ⟨_, rfl⟩
  have HC := hid hC
  rw [hC]
  clear hv hC
  go_enter Tryz.func144, Tryz.ntmps144
  go_wp2_with fail
  have HG : Hid (GrpAt (w.alloc (.cells #[.int .i64 P, .int .i64 Q, .int .i64 G] 23)) w.heap.size P Q G) := hid (box_reads rfl (Up.refl _))
  refine (ContainsFunc_any 195 _ (fun x => !exB Q x) v xs _ (HV.out.up ((Up.refl w).alloc _)) (fun _ _ => by kernel_rfl) (fun x _ w' hU' => exps_in P Q G x _ w' (HG.out.up hU'))).mono ?_
  rintro e w2 ⟨rfl, hU2⟩
  rw [any_not, HC.out]
  cases C
  · go_wp2
    go_ret
    exact ⟨rfl, ((Up.refl w).alloc _).trans hU2⟩
  · go_wp2
    go_ret
    exact ⟨rfl, ((Up.refl w).alloc _).trans hU2⟩

theorem elems_in (P Q G x : Int) (b : Nat) (w : World) (hP : -9223372036854775808 ≤ P) (hQ : Q ≤ 9223372036854775807) (hT : Tab w) (hb : GrpAt w b P Q G) :
    Calls Tryz.prog 194 #[.int .i64 x, .pointer (some ⟨b, 0, none⟩)] w fun e w' => e = .returned (.bool (!conB P Q G x)) ∧ Up w w' := by
  have HT := hid hT
  clear hT
  obtain ⟨c0, c1, c2⟩ := hb
  go_enter Tryz.func194, Tryz.ntmps194
  go_wp2_with fail
  refine (Contains_any P Q G x _ hP hQ HT.out).mono ?_
  rintro e w1 ⟨rfl, hU1⟩
  go_wp2
  go_ret
  exact ⟨rfl, hU1⟩

theorem elements_ok (P Q G : Int) (v : Value) (xs : List Int) (w : World) (hP : -9223372036854775808 ≤ P) (hQ : Q ≤ 9223372036854775807) (hT : Tab w) (hg : gvB P Q G = true) (hv : IntsAt w v xs) :
    Calls Tryz.prog 143 #[grp P Q G, v] w fun e w' => e = .returned (.bool (xs.all (elB P Q))) ∧ Up w w' := by
  have HV := hid hv
  have HT := hid hT
  have HE : Hid (xs.all (elB P Q) = xs.all (conB P Q G)) := hid (by rw [show conB P Q G = elB P Q by funext x; simp [conB, hg]])
  rw [HE.out]
  obtain ⟨C, hC⟩ : ∃ C, xs.all (conB P Q G) = C := ⟨_, rfl⟩
  have HC := hid hC
  rw [hC]
  clear hv hT hg hC
  go_enter Tryz.func143, Tryz.ntmps143
  go_wp2_with fail
  have HG : Hid (GrpAt (w.alloc (.cells #[.int .i64 P, .int .i64 Q, .int .i64 G] 23)) w.heap.size P Q G) := hid (box_reads rfl (Up.refl _))
  refine (ContainsFunc_any 194 _ (fun x => !conB P Q G x) v xs _ (HV.out.up ((Up.refl w).alloc _)) (fun _ _ => by kernel_rfl) (fun x _ w' hU' => elems_in P Q G x _ w' hP hQ (HT.out.up (((Up.refl w).alloc _).trans hU')) (HG.out.up hU'))).mono ?_
  rintro e w2 ⟨rfl, hU2⟩
  rw [any_not, HC.out]
  cases C
  · go_wp2
    go_ret
    exact ⟨rfl, ((Up.refl w).alloc _).trans hU2⟩
  · go_wp2
    go_ret
    exact ⟨rfl, ((Up.refl w).alloc _).trans hU2⟩

theorem powers_ok (P Q G : Int) (v1 v2 : Value) (bs es : List Int) (w : World) (hQ : Q ≤ 9223372036854775807) (hT : Tab w) (hg : gvB P Q G = true) (hb : ∀ x ∈ bs, elB P Q x = true) (he : ∀ x ∈ es, -9223372036854775808 ≤ x ∧ x ≤ 9223372036854775807) (hl : es.length = bs.length)
    (h1 : IntsAt w v1 bs) (h2 : IntsAt w v2 es) :
    Calls Tryz.prog 145 #[grp P Q G, v1, v2] w fun e w' => e = .returned (.tuple #[.int .i64 (pfold P Q 1 bs es), .int .i64 0]) ∧ Up w w' := by
  have HT := hid hT
  have g := gv_iff.1 hg
  have g1 := g.P61
  have g2 := g.P4
  have g3 := g.Q3
  obtain ⟨l1, a1, cp1, rfl, hc1⟩ := h1
  obtain ⟨l2, a2, cp2, rfl, hc2⟩ := h2
  have HC1 := hid hc1
  have HC2 := hid hc2
  have HE := hid he
  have HB := hid hb
  have Hg := hid hg
  have HL := hid hl
  obtain ⟨n, hn⟩ : ∃ n, bs.length = n := ⟨_, rfl⟩
  rw [hl]
  rw [hn] at l1
  rw [hn]
  have HN := hid hn
  obtain ⟨R, hR⟩ : ∃ R, pfold P Q 1 bs es = R := ⟨_, rfl⟩
  have HR := hid hR
  rw [hR]
  clear hT g hc1 hc2 he hb hg hl l2 hn hR
  go_enter Tryz.func145, Tryz.ntmps145
  go_wp2_with fail
  have HG0 : Hid (GrpAt (w.alloc (.cells #[.int .i64 P, .int .i64 Q, .int .i64 G] 23)) w.heap.size P Q G) := hid (box_reads rfl (Up.refl _))
  obtain ⟨o, ho⟩ : ∃ o, w.heap.size = o := ⟨_, rfl⟩
  rw [ho] at HG0
  rw [ho]
  clear ho
  go_loopw [8, 15] (fun vo vi wr => ∃ (i : Nat) (a : Int), i ≤ n ∧ vi = .int .i64 i ∧ vo = .int .i64 a ∧ Hid (R = pfold P Q a (bs.drop i) (es.drop i)) ∧ Hid (elB P Q a = true) ∧ Hid (Up w wr) ∧ Hid (GrpAt wr o P Q G)) (fun _ vi _ => n - (intOf vi).toNat)
  case atStart => exact ⟨0, 1, by omega, rfl, rfl, hid (by rw [← HR.out]; rfl), hid (el_one (by omega)), hid ((Up.refl w).alloc _), HG0⟩
  case round =>
    obtain ⟨i, a, hi, rfl, rfl, HD, HA, HU, HGr⟩ := hrel
    obtain ⟨c0, c1, c2⟩ := HGr.out
    by_cases hl : i < n
    · have hl1 : i < bs.length := by rw [HN.out]; exact hl
      have hl2 : i < es.length := by rw [HL.out]; exact hl1
      obtain ⟨b1, o1, rfl, k1⟩ := ints_cell HC1.out HU.out hl1
      obtain ⟨b2, o2, rfl, k2⟩ := ints_cell HC2.out HU.out hl2
      have HD2 : Hid (R = pfold P Q (a * gpw P Q (bs.getD i 0) (es.getD i 0) % P) (bs.drop (i + 1)) (es.drop (i + 1))) := hid (by rw [HD.out, drop_step hl1, drop_step hl2]; rfl)
      have HX := hid (HB.out _ (getD_mem hl1))
      obtain ⟨y0, y1⟩ := HE.out _ (getD_mem hl2)
      clear hl1 hl2 HD
      generalize bs.getD i 0 = x at *
      generalize es.getD i 0 = y at *
      obtain ⟨z, hz⟩ : ∃ z, gpw P Q x y = z := ⟨_, rfl⟩
      have HZ := hid hz
      have HZe := hid (gpw_el (by omega) (by omega) HX.out y)
      rw [hz] at HD2 HZe
      have HAn := hid (el_mul (by omega) (by omega) HA.out HZe.out)
      clear hz
      go_wp2_with fail
      have hS0 := And.intro c0 (And.intro c1 (And.intro c2 (And.intro k2 (hid (Up.refl wr)))))
      clear c0 c1 c2 k1 k2
      go_cut [11, 12] from 20 to 43 (fun va vb w' => va = .int .i64 z ∧ vb = .int .i64 0 ∧ Hid (Up wr w'))
      case first =>
        go_region_held3 (fun w' => w'.cell? ⟨o, 0, none⟩ = some (.int .i64 P) ∧ w'.cell? ⟨o, 1, none⟩ = some (.int .i64 Q) ∧ w'.cell? ⟨o, 2, none⟩ = some (.int .i64 G) ∧ w'.cell? ⟨b2, o2 + i, none⟩ = some (.int .i64 y) ∧ Hid (Up wr w')) (first | exact keepC4 ((Up.refl _).drew) (by assumption) | exact keepC4 ((Up.refl _).alloc _) (by assumption) | exact keepC4 (by assumption) (by assumption)) (first
          | (go_at_call 30; refine (gPower_ok P Q G x y _ hQ (HT.out.up (HU.out.trans (up4 (by assumption)))) Hg.out HX.out y0 y1).mono ?_; rintro e w9 ⟨rfl, hU9⟩; rw [HZ.out]))
        all_goals (go_wp2_with fail; go_meet)
        all_goals exact ⟨rfl, rfl, hid (up4 (by assumption))⟩
      case rest =>
        obtain ⟨rfl, rfl, HU1⟩ := hcut
        have HU2 := hid (HU.out.trans HU1.out)
        have HG2 := hid (HGr.out.up HU1.out)
        clear hS0 HU1
        obtain ⟨c0, c1, c2⟩ := HG2.out
        go_wp2_with fail
        refine (gMul_ok P Q G a z _ hQ (HT.out.up HU2.out) Hg.out HA.out HZe.out).mono ?_
        rintro e w4 ⟨rfl, hU4⟩
        have HU4 := hid (HU2.out.trans hU4)
        have HG4 := hid (HG2.out.up hU4)
        clear hU4 c0 c1 c2
        go_wp2_with fail
        go_roundw
        case rel => exact ⟨i + 1, _, by omega, by go_num, rfl, HD2, HAn, HU4, HG4⟩
        case measure => simp [intOf]; omega
    · obtain rfl : i = n := by omega
      have HE2 : Hid (R = a) := hid (by rw [HD.out, List.drop_eq_nil_of_le (by rw [HN.out]; omega)]; rfl)
      go_wp2
      go_ret2
      exact ⟨by rw [HE2.out]; rfl, HU.out⟩
end Go.Proofs.YtoaomjdpiealfaaGreatDoor
namespace Go.Proofs.YtoaomjdpiealfaaGreatDoor
open Go.RowKit Go.Sp
set_option maxHeartbeats 1000000
set_option maxRecDepth 20000

theorem ex_range {Q : Int} {es : List Int} (hQ : Q ≤ 9223372036854775807) (h : es.all (exB Q) = true) : ∀ x ∈ es, -9223372036854775808 ≤ x ∧ x ≤ 9223372036854775807 := by
  intro x hx
  have := exB_iff.1 (List.all_eq_true.1 h x hx)
  omega

theorem Product_any (P Q G : Int) (v1 v2 : Value) (bs es : List Int) (w : World) (hP : -9223372036854775808 ≤ P) (hQ : Q ≤ 9223372036854775807) (hT : Tab w) (h1 : IntsAt w v1 bs) (h2 : IntsAt w v2 es) :
    Calls Tryz.prog 82 #[grp P Q G, v1, v2] w fun e w' => e = .returned (.tuple #[.int .i64 (prV P Q G bs es), .int .i64 (prE P Q G bs es)]) ∧ Up w w' := by
  have HT := hid hT
  have HI1 := hid h1
  have HI2 := hid h2
  obtain ⟨l1, a1, cp1, rfl, _⟩ := h1
  obtain ⟨l2, a2, cp2, rfl, _⟩ := h2
  have HE : Hid (prE P Q G bs es = if gvB P Q G = true ∧ bs.length = es.length then (if 100 < bs.length then 5 else if bs.all (elB P Q) = true ∧ es.all (exB Q) = true then 0 else 2) else 1) := hid rfl
  have HV : Hid (prV P Q G bs es = if prE P Q G bs es = 0 then pfold P Q 1 bs es else 0) := hid rfl
  generalize prE P Q G bs es = E at *
  generalize prV P Q G bs es = V at *
  have HC1 : Hid (bs.all (elB P Q) = bs.all (elB P Q)) := hid rfl
  obtain ⟨n, hn⟩ : ∃ n, bs.length = n := ⟨_, rfl⟩
  obtain ⟨m, hm⟩ : ∃ m, es.length = m := ⟨_, rfl⟩
  have HN := hid hn
  have HM := hid hm
  rw [hn] at HE HI1 l1
  rw [hm] at HE HI2 l2
  rw [hn, hm]
  clear hT hn hm HC1
  by_cases hg : gvB P Q G = true
  case neg =>
    have hE : E = 1 := by rw [HE.out, if_neg (fun h => hg h.1)]
    have hV : V = 0 := by rw [HV.out, hE]; rfl
    subst hE hV
    have hg' : gvB P Q G = false := by simpa using hg
    have Hg := hid hg'
    clear hg hg'
    go_enter Tryz.func82, Tryz.ntmps82
    go_wp2_with fail
    refine (Valid_any P Q G _ hP hQ (HT.out.up ((Up.refl w).alloc _))).mono ?_
    rintro e w1 ⟨rfl, hU1⟩
    rw [Hg.out]
    go_wp2
    go_ret2
    exact ⟨rfl, ((Up.refl w).alloc _).trans hU1⟩
  have Hg := hid hg
  by_cases he : n = m
  case neg =>
    have hE : E = 1 := by rw [HE.out, if_neg (fun h => he h.2)]
    have hV : V = 0 := by rw [HV.out, hE]; rfl
    subst hE hV
    have d1 : (n != m) = true := by simpa using he
    have d2 : ((n : Int) != (m : Int)) = true := by simp; omega
    clear hg he
    go_enter Tryz.func82, Tryz.ntmps82
    go_wp2_with fail
    refine (Valid_any P Q G _ hP hQ (HT.out.up ((Up.refl w).alloc _))).mono ?_
    rintro e w1 ⟨rfl, hU1⟩
    rw [Hg.out]
    go_wp2
    go_ret2
    exact ⟨rfl, ((Up.refl w).alloc _).trans hU1⟩
  obtain rfl := he
  have HE2 : Hid (E = if 100 < n then 5 else if bs.all (elB P Q) = true ∧ es.all (exB Q) = true then 0 else 2) := hid (by rw [HE.out, if_pos ⟨hg, rfl⟩])
  clear hg HE
  by_cases hb : 100 < n
  case pos =>
    have hE : E = 5 := by rw [HE2.out, if_pos hb]
    have hV : V = 0 := by rw [HV.out, hE]; rfl
    subst hE hV
    go_enter Tryz.func82, Tryz.ntmps82
    go_wp2_with fail
    refine (Valid_any P Q G _ hP hQ (HT.out.up ((Up.refl w).alloc _))).mono ?_
    rintro e w1 ⟨rfl, hU1⟩
    rw [Hg.out]
    have d1 : decide (100 < n) = true := by simpa using hb
    go_wp2
    go_ret2
    exact ⟨rfl, ((Up.refl w).alloc _).trans hU1⟩
  have d1 : decide (100 < n) = false := by simpa using hb
  have HE3 : Hid (E = if bs.all (elB P Q) = true ∧ es.all (exB Q) = true then 0 else 2) := hid (by rw [HE2.out, if_neg hb])
  clear HE2
  go_enter Tryz.func82, Tryz.ntmps82
  go_wp2_with fail
  refine (Valid_any P Q G _ hP hQ (HT.out.up ((Up.refl w).alloc _))).mono ?_
  rintro e w1 ⟨rfl, hU1⟩
  rw [Hg.out]
  have HG := hid (box_reads rfl hU1)
  have HU1 := hid (((Up.refl w).alloc _).trans hU1)
  clear hU1
  obtain ⟨c0, c1, c2⟩ := HG.out
  go_wp2_with fail
  refine (elements_ok P Q G _ bs _ hP hQ (HT.out.up HU1.out) Hg.out (HI1.out.up HU1.out)).mono ?_
  rintro e w2 ⟨rfl, hU2⟩
  have HU2 := hid (HU1.out.trans hU2)
  obtain ⟨c0, c1, c2⟩ := HG.out.up hU2
  have HG2 := hid (HG.out.up hU2)
  clear hU2
  obtain ⟨X, hX⟩ : ∃ X, bs.all (elB P Q) = X := ⟨_, rfl⟩
  have HX := hid hX
  rw [hX] at HE3
  rw [hX]
  clear hX
  cases X
  case false =>
    have hE : E = 2 := by rw [HE3.out, if_neg (by simp)]
    have hV : V = 0 := by rw [HV.out, hE]; rfl
    subst hE hV
    go_wp2
    go_ret2
    exact ⟨rfl, HU2.out⟩
  go_wp2_with fail
  refine (exponents_any P Q G _ es _ (HI2.out.up HU2.out)).mono ?_
  rintro e w3 ⟨rfl, hU3⟩
  have HU3 := hid (HU2.out.trans hU3)
  obtain ⟨c0, c1, c2⟩ := HG2.out.up hU3
  clear hU3
  obtain ⟨Y, hY⟩ : ∃ Y, es.all (exB Q) = Y := ⟨_, rfl⟩
  have HY := hid hY
  rw [hY] at HE3
  rw [hY]
  clear hY
  cases Y
  case false =>
    have hE : E = 2 := by rw [HE3.out, if_neg (by simp)]
    have hV : V = 0 := by rw [HV.out, hE]; rfl
    subst hE hV
    go_wp2
    go_ret2
    exact ⟨rfl, HU3.out⟩
  have hE : E = 0 := by rw [HE3.out, if_pos (by simp)]
  have hV : V = pfold P Q 1 bs es := by rw [HV.out, hE]; rfl
  have HVV := hid hV
  subst hE
  clear hV HE3 HV
  go_wp2_with fail
  refine (powers_ok P Q G _ _ bs es _ hQ (HT.out.up HU3.out) Hg.out (List.all_eq_true.1 HX.out) (ex_range hQ HY.out) (by rw [HN.out, HM.out]) (HI1.out.up HU3.out) (HI2.out.up HU3.out)).mono ?_
  rintro e w4 ⟨rfl, hU4⟩
  rw [← HVV.out]
  go_wp2
  go_ret2
  exact ⟨rfl, HU3.out.trans hU4⟩

end Go.Proofs.YtoaomjdpiealfaaGreatDoor
