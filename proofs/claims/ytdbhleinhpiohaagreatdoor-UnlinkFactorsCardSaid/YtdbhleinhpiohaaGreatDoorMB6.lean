/- Products of elements: product.Join, specieref12.Join. Bases: validity; what is given. Products of powers: exponents add up; products are put together. The plain side. Commitments: what is given, Commit, Open, Add, Scale, Shift. Commitments: Commit, Open, Add, Scale, Shift; the reference. -/
import Derived.Test.YtdbhleinhpiohaaGreatDoorMB5
import Derived.Test.YtdbhleinhpiohaaGreatDoorMB4
namespace Go.Proofs.YtdbhleinhpiohaaGreatDoor
open Go.RowKit Go.Sp
set_option maxHeartbeats 1000000
set_option maxRecDepth 20000

/-- The first i elements are good. -/
def GoodE (P Q : Int) (l : List Int) (i : Nat) : Prop := ∀ j, j < i → elB P Q (l.getD j 0) = true

theorem GoodE.step {P Q : Int} {l : List Int} {i : Nat} (h : GoodE P Q l i) (h1 : elB P Q (l.getD i 0) = true) : GoodE P Q l (i + 1) := by
  intro j hj
  rcases Nat.lt_or_ge j i with h3 | h3
  · exact h j h3
  · obtain rfl : j = i := by omega
    exact h1

theorem GoodE.all {P Q : Int} {l : List Int} (h : GoodE P Q l l.length) : l.all (elB P Q) = true := by
  refine List.all_eq_true.2 fun x hx => ?_
  obtain ⟨i, hi, rfl⟩ := List.getElem_of_mem hx
  have := h i hi
  simpa [hi] using this

end Go.Proofs.YtdbhleinhpiohaaGreatDoor
namespace Go.Proofs.YtdbhleinhpiohaaGreatDoor
open Go.RowKit Go.Sp
set_option maxHeartbeats 2000000
set_option maxRecDepth 20000

/-- Bases as a value. -/
abbrev bas (P Q G A B C : Int) : Value := .agg #[.int .i64 P, .int .i64 Q, .int .i64 G, .int .i64 A, .int .i64 B, .int .i64 C]

/-- An element other than 1. -/
def gnB (P Q x : Int) : Bool := x != 1 && elB P Q x

/-- Valid bases. -/
def bvB (P Q G A B C : Int) : Bool := gvB P Q G && [A, B, C].all (gnB P Q)

/-- Bases in a variable's block. -/
def BasAt (w : World) (b : Nat) (P Q G A B C : Int) : Prop :=
  GrpAt w b P Q G ∧ w.cell? ⟨b, 3, none⟩ = some (.int .i64 A) ∧ w.cell? ⟨b, 4, none⟩ = some (.int .i64 B) ∧ w.cell? ⟨b, 5, none⟩ = some (.int .i64 C)

theorem BasAt.up {w w' : World} {b : Nat} {P Q G A B C : Int} (h : BasAt w b P Q G A B C) (hU : Up w w') : BasAt w' b P Q G A B C :=
  ⟨h.1.up hU, cellUp hU h.2.1, cellUp hU h.2.2.1, cellUp hU h.2.2.2⟩

theorem bas_reads {w w1 : World} {P Q G A B C : Int} {o : Obj} (ho : o = .cells #[.int .i64 P, .int .i64 Q, .int .i64 G, .int .i64 A, .int .i64 B, .int .i64 C] 25) (hU : Up (w.alloc o) w1) : BasAt w1 w.heap.size P Q G A B C := by
  subst ho
  have h : BasAt (w.alloc (.cells #[.int .i64 P, .int .i64 Q, .int .i64 G, .int .i64 A, .int .i64 B, .int .i64 C] 25)) w.heap.size P Q G A B C :=
    ⟨⟨by go_simp, by go_simp, by go_simp⟩, by go_simp, by go_simp, by go_simp⟩
  exact h.up hU

theorem bv_iff {P Q G A B C : Int} : bvB P Q G A B C = true ↔ gvB P Q G = true ∧ (A ≠ 1 ∧ elB P Q A = true) ∧ (B ≠ 1 ∧ elB P Q B = true) ∧ (C ≠ 1 ∧ elB P Q C = true) := by
  simp [bvB, gnB]

theorem bValid_any (P Q G A B C : Int) (w : World) (hP : -9223372036854775808 ≤ P) (hQ : Q ≤ 9223372036854775807) (hT : Tab w) :
    Calls Tryz.prog 38 #[bas P Q G A B C] w fun e w' => e = .returned (.bool (bvB P Q G A B C)) ∧ Up w w' := by
  have HT := hid hT
  have HB : Hid (bvB P Q G A B C = (gvB P Q G && [A, B, C].all (gnB P Q))) := hid rfl
  generalize bvB P Q G A B C = X at *
  clear hT
  go_enter Tryz.func38, Tryz.ntmps38
  go_wp2_with fail
  refine (Valid_any P Q G _ hP hQ (HT.out.up ((Up.refl w).alloc _))).mono ?_
  rintro e w1 ⟨rfl, hU1⟩
  have HA := hid (bas_reads rfl hU1)
  have HU1 := hid (((Up.refl w).alloc _).trans hU1)
  clear hU1
  by_cases hg : gvB P Q G = true
  case neg =>
    have hg' : gvB P Q G = false := by simpa using hg
    have hX : X = false := by rw [HB.out, hg']; rfl
    subst hX
    rw [hg']
    clear hg hg'
    go_wp2
    go_ret
    exact ⟨rfl, HU1.out⟩
  have Hg := hid hg
  have HX : Hid (X = [A, B, C].all (gnB P Q)) := hid (by rw [HB.out, hg]; rfl)
  have g := gv_iff.1 hg
  have g1 := g.P61
  have g2 := g.P4
  have g3 := g.Q3
  rw [hg]
  clear hg HB g
  obtain ⟨⟨c0, c1, c2⟩, c3, c4, c5⟩ := HA.out
  go_wp2_with fail
  have HI := hid (ints_three (w := w1.alloc (.cells #[.int .i64 A, .int .i64 B, .int .i64 C] 3)) (b := w1.heap.size) (cap := 3) (x := A) (y := B) (z := C) (by go_simp) (by go_simp) (by go_simp))
  have HA2 := hid (HA.out.up ((Up.refl w1).alloc (.cells #[.int .i64 A, .int .i64 B, .int .i64 C] 3)))
  have HU2 := hid (HU1.out.alloc (.cells #[.int .i64 A, .int .i64 B, .int .i64 C] 3))
  obtain ⟨o, ho⟩ : ∃ o, w.heap.size = o := ⟨_, rfl⟩
  obtain ⟨b, hb⟩ : ∃ b, w1.heap.size = b := ⟨_, rfl⟩
  rw [ho] at HA2
  rw [hb] at HI
  rw [ho, hb]
  obtain ⟨xs, hxs⟩ : ∃ xs, [A, B, C] = xs := ⟨_, rfl⟩
  have hlen : xs.length = 3 := by rw [← hxs]; rfl
  have HLn := hid hlen
  rw [hxs] at HI HX
  obtain ⟨_, ad, cp, hsl, hc⟩ := HI.out
  have HC := hid hc
  clear ho hb hxs hlen HA HU1 c0 c1 c2 c3 c4 c5 hsl hc
  go_loopw [17] (fun vi wr => ∃ i : Nat, i ≤ 3 ∧ vi = .int .i64 i ∧ Hid (∀ j, j < i → gnB P Q (xs.getD j 0) = true) ∧ Hid (Up w wr) ∧ Hid (BasAt wr o P Q G A B C) ∧ Hid (IntsAt wr (.slice (some ⟨b, 0, none⟩) 3 3) xs)) (fun vi _ => 3 - (intOf vi).toNat)
  case atStart => exact ⟨0, by omega, rfl, hid (fun j hj => by omega), HU2, HA2, HI⟩
  case round =>
    obtain ⟨i, hi, rfl, HG, HU, HAr, HIr⟩ := hrel
    by_cases hl : i < 3
    · have hlZ : (i : Int) < 3 := by omega
      have k : wr.cell? ⟨b, i, none⟩ = some (.int .i64 (xs.getD i 0)) := by
        obtain ⟨_, ad', cp', hsl, hc⟩ := HIr.out
        injection hsl with h1 h2 h3
        obtain ⟨b', o', h4, hcell⟩ := hc (by intro h; rw [h] at h2; simp at h2)
        rw [h4] at h1
        injection h1 with h1
        injection h1 with h1 h5
        have := hcell i (by rw [← h2]; exact hl)
        rw [← h1, ← h5, Nat.zero_add] at this
        exact this
      have HS : Hid (gnB P Q (xs.getD i 0) = true → ∀ j, j < i + 1 → gnB P Q (xs.getD j 0) = true) := hid (fun h j hj => by
        rcases Nat.lt_or_ge j i with h3 | h3
        · exact HG.out j h3
        · obtain rfl : j = i := by omega
          exact h)
      have HBd : Hid (gnB P Q (xs.getD i 0) = false → X = false) := hid (fun h => by
        rw [HX.out, List.all_eq_false]
        exact ⟨_, getD_mem (by rw [HLn.out]; exact hl), by rw [h]; simp⟩)
      clear HG
      generalize xs.getD i 0 = x at *
      obtain ⟨⟨c0, c1, c2⟩, c3, c4, c5⟩ := HAr.out
      by_cases hx : x = 1
      · have d1 : (x == 1) = true := by simpa using hx
        have hX : X = false := HBd.out (by simp [gnB, hx])
        subst hX
        clear hx
        go_wp2
        go_ret
        exact ⟨rfl, HU.out⟩
      · have d1 : (x == 1) = false := by simpa using hx
        have HGn : Hid (gnB P Q x = elB P Q x) := hid (by simp [gnB, hx])
        clear hx
        go_wp2_with fail
        refine (Contains_any P Q G x _ hP hQ (HT.out.up HU.out)).mono ?_
        rintro e w3 ⟨rfl, hU3⟩
        rw [show conB P Q G x = elB P Q x by simp [conB, Hg.out]]
        have HU3 := hid (HU.out.trans hU3)
        have HA3 := hid (HAr.out.up hU3)
        have HI3 := hid (HIr.out.up hU3)
        clear hU3 c0 c1 c2 c3 c4 c5
        by_cases he : elB P Q x = true
        · have He := hid he
          rw [he]
          clear he
          go_wp2_with fail
          go_roundw
          case rel => exact ⟨i + 1, by omega, by go_num, hid (HS.out (by rw [HGn.out]; exact He.out)), HU3, HA3, HI3⟩
          case measure => simp [intOf]; omega
        · have he' : elB P Q x = false := by simpa using he
          have hX : X = false := HBd.out (by rw [HGn.out]; exact he')
          subst hX
          rw [he']
          clear he he'
          go_wp2
          go_ret
          exact ⟨rfl, HU3.out⟩
    · obtain rfl : i = 3 := by omega
      have hX : X = true := by
        rw [HX.out, List.all_eq_true]
        intro x hx
        obtain ⟨j, hj, rfl⟩ := List.getElem_of_mem hx
        have := HG.out j (by rw [HLn.out] at hj; exact hj)
        simpa [hj] using this
      subst hX
      go_wp2
      go_ret
      exact ⟨rfl, HU.out⟩
end Go.Proofs.YtdbhleinhpiohaaGreatDoor
namespace Go.Proofs.YtdbhleinhpiohaaGreatDoor
open Go.Sp

theorem mmul4 (x y u v P : Int) : (x * y % P) * (u * v % P) % P = (x * u % P) * (y * v % P) % P := by
  rw [emul (emod_self (x * y) P) (emod_self (u * v) P), emul (emod_self (x * u) P) (emod_self (y * v) P)]
  congr 1
  grind

theorem gpw_nonneg {P Q a m : Int} (hP : 0 < P) : 0 ≤ gpw P Q a m ∧ gpw P Q a m < P := ⟨pw_nonneg _ _ hP, pw_lt _ _ hP⟩

theorem pfold_sum {P Q : Int} (hP : 2 ≤ P) (hQ : 1 ≤ Q) : ∀ (bs ms es : List Int) (x y : Int), (∀ b ∈ bs, elB P Q b = true) → ms.length = bs.length → es.length = bs.length →
    pfold P Q (x * y % P) bs (List.zipWith (fun a e => (a + e) % Q) ms es) = pfold P Q x bs ms * pfold P Q y bs es % P
  | [], [], [], x, y, _, _, _ => by simp [pfold]
  | b :: bs, a :: ms, e :: es, x, y, hb, h1, h2 => by
    have ih := pfold_sum hP hQ bs ms es (x * gpw P Q b a % P) (y * gpw P Q b e % P) (fun z hz => hb z (by simp [hz])) (by simpa using h1) (by simpa using h2)
    rw [List.zipWith_cons_cons, pfold, pfold, pfold, ← ih]
    congr 1
    rw [gpw_base_mod (P := P) (a := b) (emod_self (a + e) Q), ← gpw_add hP hQ (hb b (by simp))]
    exact mmul4 _ _ _ _ _

theorem gpw_prod {P Q x y k : Int} : gpw P Q (x * y % P) k = gpw P Q x k * gpw P Q y k % P := pw_prod _ _ _ _

theorem pfold_times {P Q : Int} (hP : 2 ≤ P) (hQ : 1 ≤ Q) (k : Int) : ∀ (bs ms : List Int) (x : Int), (∀ b ∈ bs, elB P Q b = true) →
    pfold P Q (gpw P Q x k) bs (ms.map fun a => a * k % Q) = gpw P Q (pfold P Q x bs ms) k
  | [], [], x, _ => by simp [pfold]
  | [], a :: ms, x, _ => by simp [pfold]
  | b :: bs, [], x, _ => by simp [pfold]
  | b :: bs, a :: ms, x, hb => by
    rw [List.map_cons, pfold, pfold, ← pfold_times hP hQ k bs ms _ (fun z hz => hb z (by simp [hz]))]
    congr 1
    rw [gpw_prod, gpw_base_mod (P := P) (a := b) (emod_self (a * k) Q), ← gpw_mul hP hQ (hb b (by simp))]

theorem gpw_one {P Q k : Int} (hP : 2 ≤ P) : gpw P Q 1 k = 1 := by
  unfold gpw; rw [pw_one_base]; exact Int.emod_eq_of_lt (by omega) (by omega)

theorem gpw_zero {P Q a : Int} (hP : 2 ≤ P) : gpw P Q a 0 = 1 := by
  unfold gpw; rw [Int.zero_emod]
  show pw a 0 P = 1
  rw [pw_zero]; exact Int.emod_eq_of_lt (by omega) (by omega)

theorem pfold_none {P Q : Int} (hP : 2 ≤ P) : ∀ (bs es : List Int), (∀ e ∈ es, e = 0) → pfold P Q 1 bs es = 1
  | [], es, _ => by simp [pfold]
  | b :: bs, [], _ => by simp [pfold]
  | b :: bs, e :: es, h => by
    rw [pfold, h e (by simp), gpw_zero hP, Int.mul_one, Int.emod_eq_of_lt (by omega) (by omega)]
    exact pfold_none hP bs es fun x hx => h x (by simp [hx])

theorem pfold_append {P Q : Int} : ∀ (b1 e1 b2 e2 : List Int) (a : Int), b1.length = e1.length → pfold P Q a (b1 ++ b2) (e1 ++ e2) = pfold P Q (pfold P Q a b1 e1) b2 e2
  | [], [], b2, e2, a, _ => by simp [pfold]
  | b :: b1, e :: e1, b2, e2, a, h => by
    rw [List.cons_append, List.cons_append, pfold, pfold]
    exact pfold_append b1 e1 b2 e2 _ (by simpa using h)

/-- Cut at any place. -/
theorem pfold_cut {P Q : Int} (hP : 2 ≤ P) (hQ : 1 ≤ Q) (bs es : List Int) (k : Nat) (hb : ∀ b ∈ bs, elB P Q b = true) (h : bs.length = es.length) :
    pfold P Q 1 (bs.take k) (es.take k) * pfold P Q 1 (bs.drop k) (es.drop k) % P = pfold P Q 1 bs es := by
  rw [← pfold_out, Int.mul_one]
  have h1 := pfold_el hP hQ (bs.take k) (es.take k) 1 (el_one hP) fun b hm => hb b (List.mem_of_mem_take hm)
  have h2 := pfold_el hP hQ (bs.drop k) (es.drop k) _ h1 fun b hm => hb b (List.mem_of_mem_drop hm)
  rw [el_lt h1, el_lt h2, ← pfold_append _ _ _ _ _ (by simp [h]), List.take_append_drop, List.take_append_drop]

/-- Turned round. -/
theorem pfold_rev {P Q : Int} (hP : 2 ≤ P) (hQ : 1 ≤ Q) : ∀ (bs es : List Int), (∀ b ∈ bs, elB P Q b = true) → bs.length = es.length → pfold P Q 1 bs.reverse es.reverse = pfold P Q 1 bs es
  | [], [], _, _ => rfl
  | b :: bs, e :: es, hb, h => by
    have hb0 := hb b (by simp)
    have hbs : ∀ x ∈ bs, elB P Q x = true := fun x hx => hb x (by simp [hx])
    have g := gpw_el hP hQ hb0 e
    have h1 := pfold_el hP hQ bs es 1 (el_one hP) hbs
    have h2 := pfold_el hP hQ bs es _ g hbs
    rw [List.reverse_cons, List.reverse_cons, pfold_append _ _ _ _ _ (by simpa using h), pfold_rev hP hQ bs es hbs (by simpa using h)]
    show pfold P Q 1 bs es * gpw P Q b e % P = pfold P Q (1 * gpw P Q b e % P) bs es
    rw [Int.one_mul, el_lt g, Int.mul_comm, ← pfold_out, Int.mul_one, el_lt g, el_lt h2]
end Go.Proofs.YtdbhleinhpiohaaGreatDoor
namespace Go.Proofs.YtdbhleinhpiohaaGreatDoor
open Go.RowKit Go.Sp
set_option maxHeartbeats 2000000
set_option maxRecDepth 20000

/-- The error of bases, scalars, and elements. -/
def givE (P Q G A B C : Int) (ss es : List Int) : Int :=
  if bvB P Q G A B C = true then (if ss.all (exB Q) = true ∧ es.all (elB P Q) = true then 0 else 2) else 1

theorem all_of {p : Int → Bool} {xs : List Int} (h : ∀ j, j < xs.length → p (xs.getD j 0) = true) : xs.all p = true := by
  rw [List.all_eq_true]
  intro x hx
  obtain ⟨j, hj, rfl⟩ := List.getElem_of_mem hx
  have := h j hj
  simpa [hj] using this

/-- The commitment to m with r. -/
def comV (P Q G C m r : Int) : Int := gpw P Q G m * gpw P Q C r % P

theorem com_prV {P Q G A B C m r : Int} (hb : bvB P Q G A B C = true) (hm : exB Q m = true) (hr : exB Q r = true) : prE P Q G [G, C] [m, r] = 0 ∧ prV P Q G [G, C] [m, r] = comV P Q G C m r := by
  obtain ⟨hg, _, _, _, hc⟩ := bv_iff.1 hb
  have g := gv_iff.1 hg
  have g2 := g.P4
  have g5 := g.G2
  have hG : elB P Q G = true := el_iff.2 ⟨by omega, g.GP, g.GQ⟩
  have h0 : prE P Q G [G, C] [m, r] = 0 := prE_zero.2 ⟨hg, rfl, by simp, by simp [hG, hc], by simp [hm, hr]⟩
  refine ⟨h0, ?_⟩
  rw [prV, if_pos h0]
  show (1 * gpw P Q G m % P) * gpw P Q C r % P = _
  rw [Int.one_mul, show gpw P Q G m % P = gpw P Q G m from Int.emod_eq_of_lt (gpw_nonneg (by omega)).1 (gpw_nonneg (by omega)).2]
  rfl

theorem com_el {P Q G A B C m r : Int} (hb : bvB P Q G A B C = true) : elB P Q (comV P Q G C m r) = true := by
  obtain ⟨hg, _, _, _, hc⟩ := bv_iff.1 hb
  have g := gv_iff.1 hg
  have g2 := g.P4
  have g3 := g.Q3
  have g5 := g.G2
  have hG : elB P Q G = true := el_iff.2 ⟨by omega, g.GP, g.GQ⟩
  exact el_mul (by omega) (by omega) (gpw_el (by omega) (by omega) hG m) (gpw_el (by omega) (by omega) hc r)

end Go.Proofs.YtdbhleinhpiohaaGreatDoor
namespace Go.Proofs.YtdbhleinhpiohaaGreatDoor
open Go.RowKit Go.Sp
set_option maxHeartbeats 2000000
set_option maxRecDepth 20000

theorem giv_zero {P Q G A B C : Int} {ss es : List Int} : givE P Q G A B C ss es = 0 ↔ bvB P Q G A B C = true ∧ (∀ x ∈ ss, exB Q x = true) ∧ ∀ x ∈ es, elB P Q x = true := by
  unfold givE
  by_cases h : bvB P Q G A B C = true
  · rw [if_pos h]
    by_cases h3 : ss.all (exB Q) = true ∧ es.all (elB P Q) = true
    · rw [if_pos h3]
      exact ⟨fun _ => ⟨h, List.all_eq_true.1 h3.1, List.all_eq_true.1 h3.2⟩, fun _ => rfl⟩
    · rw [if_neg h3]
      constructor
      · intro h; omega
      · rintro ⟨_, h4, h5⟩
        exact absurd ⟨List.all_eq_true.2 h4, List.all_eq_true.2 h5⟩ h3
  · rw [if_neg h]
    constructor
    · intro h; omega
    · rintro ⟨h1, _⟩
      exact absurd h1 h

theorem ints_none (w : World) : IntsAt w (.slice none 0 0) [] := ⟨by simp, none, 0, rfl, fun h => absurd rfl h⟩

/-- A commitment, or 0. -/
def comR (P Q G A B C m r : Int) : Int := if givE P Q G A B C [m, r] [] = 0 then comV P Q G C m r else 0

end Go.Proofs.YtdbhleinhpiohaaGreatDoor
