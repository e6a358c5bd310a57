/- specieref12.Product; the products of elements. Products of elements: product.Join, specieref12.Join. -/
import Derived.Test.YtmbbnjbohnobcaaDoorMRestrictHolder21
import Derived.Test.YtmbbnjbohnobcaaDoorMRestrictHolder11
namespace Go.Proofs.YtmbbnjbohnobcaaDoor
open Go.RowKit Go.Sp
set_option maxHeartbeats 2000000
set_option maxRecDepth 20000

/-- The first i bases and exponents are good. -/
def GoodTo (P Q : Int) (bs es : List Int) (i : Nat) : Prop := ∀ j, j < i → elB P Q (bs.getD j 0) = true ∧ exB Q (es.getD j 0) = true

theorem GoodTo.step {P Q : Int} {bs es : List Int} {i : Nat} (h : GoodTo P Q bs es i) (h1 : elB P Q (bs.getD i 0) = true) (h2 : exB Q (es.getD i 0) = true) : GoodTo P Q bs es (i + 1) := by
  intro j hj
  rcases Nat.lt_or_ge j i with h3 | h3
  · exact h j h3
  · obtain rfl : j = i := by omega
    exact ⟨h1, h2⟩

theorem GoodTo.all {P Q : Int} {bs es : List Int} (hl : es.length = bs.length) (h : GoodTo P Q bs es bs.length) : bs.all (elB P Q) = true ∧ es.all (exB Q) = true := by
  constructor
  · refine List.all_eq_true.2 fun x hx => ?_
    obtain ⟨i, hi, rfl⟩ := List.getElem_of_mem hx
    have := (h i hi).1
    simpa [hi] using this
  · refine List.all_eq_true.2 fun x hx => ?_
    obtain ⟨i, hi, rfl⟩ := List.getElem_of_mem hx
    have := (h i (by omega)).2
    simpa [hi] using this

theorem not_all {p : Int → Bool} {xs : List Int} {i : Nat} (hi : i < xs.length) (h : p (xs.getD i 0) = false) : xs.all p = false := by
  rw [List.all_eq_false]
  exact ⟨_, getD_mem hi, by rw [h]; simp⟩

end Go.Proofs.YtmbbnjbohnobcaaDoor
namespace Go.Proofs.YtmbbnjbohnobcaaDoor
open Go.RowKit Go.Sp
set_option maxHeartbeats 1000000
set_option maxRecDepth 20000

theorem Join_any (P Q G : Int) (v : Value) (l : List Int) (w : World) (hP : -9223372036854775808 ≤ P) (hQ : Q ≤ 9223372036854775807) (hT : Tab w) (h1 : IntsAt w v l) :
    Calls Tryd.prog 18 #[grp P Q G, v] w fun e w' => e = .returned (.tuple #[.int .i64 (joV P Q G l), .int .i64 (joE P Q G l)]) ∧ Up w w' := by
  have HT := hid hT
  have HI1 := hid h1
  obtain ⟨l1, a1, cp1, rfl, hc1⟩ := h1
  have HC1 := hid hc1
  have HE : Hid (joE P Q G l = if gvB P Q G = true then (if 1000 < l.length then 5 else if l.all (elB P Q) = true then 0 else 2) else 1) := hid rfl
  have HV : Hid (joV P Q G l = if joE P Q G l = 0 then jfold P 1 l else 0) := hid rfl
  generalize joE P Q G l = E at *
  generalize joV P Q G l = V at *
  obtain ⟨n, hn⟩ : ∃ n, l.length = n := ⟨_, rfl⟩
  have HN := hid hn
  rw [hn] at HE HI1 l1
  rw [hn]
  clear hT hn hc1
  by_cases hg : gvB P Q G = true
  case neg =>
    have hE : E = 1 := by rw [HE.out, if_neg hg]
    have hV : V = 0 := by rw [HV.out, hE]; rfl
    subst hE hV
    have hg' : gvB P Q G = false := by simpa using hg
    have Hg := hid hg'
    clear hg hg'
    go_enter Tryd.func18, Tryd.ntmps18
    go_wp2_with fail
    refine (Valid_any P Q G _ hP hQ (HT.out.up ((Up.refl w).alloc _))).mono ?_
    rintro e w1 ⟨rfl, hU1⟩
    rw [Hg.out]
    go_wp2
    go_ret2
    exact ⟨rfl, ((Up.refl w).alloc _).trans hU1⟩
  have Hg := hid hg
  have HE2 : Hid (E = if 1000 < n then 5 else if l.all (elB P Q) = true then 0 else 2) := hid (by rw [HE.out, if_pos hg])
  have g := gv_iff.1 hg
  have g1 := g.P61
  have g2 := g.P4
  have g3 := g.Q3
  clear hg HE g
  by_cases hb : 1000 < n
  case pos =>
    have hE : E = 5 := by rw [HE2.out, if_pos hb]
    have hV : V = 0 := by rw [HV.out, hE]; rfl
    subst hE hV
    go_enter Tryd.func18, Tryd.ntmps18
    go_wp2_with fail
    refine (Valid_any P Q G _ hP hQ (HT.out.up ((Up.refl w).alloc _))).mono ?_
    rintro e w1 ⟨rfl, hU1⟩
    rw [Hg.out]
    have d1 : decide (1000 < n) = true := by simpa using hb
    go_wp2
    go_ret2
    exact ⟨rfl, ((Up.refl w).alloc _).trans hU1⟩
  have d1 : decide (1000 < n) = false := by simpa using hb
  have HE3 : Hid (E = if l.all (elB P Q) = true then 0 else 2) := hid (by rw [HE2.out, if_neg hb])
  clear HE2
  go_enter Tryd.func18, Tryd.ntmps18
  go_wp2_with fail
  refine (Valid_any P Q G _ hP hQ (HT.out.up ((Up.refl w).alloc _))).mono ?_
  rintro e w1 ⟨rfl, hU1⟩
  rw [Hg.out]
  have HG := hid (box_reads rfl hU1)
  have HU1 := hid (((Up.refl w).alloc _).trans hU1)
  clear hU1
  obtain ⟨c0, c1, c2⟩ := HG.out
  go_wp2_with fail
  refine (elements_ok P Q G _ l _ hP hQ (HT.out.up HU1.out) Hg.out (HI1.out.up HU1.out)).mono ?_
  rintro e w2 ⟨rfl, hU2⟩
  have HU2 := hid (HU1.out.trans hU2)
  have HG2 := hid (HG.out.up hU2)
  clear hU2
  obtain ⟨X, hX⟩ : ∃ X, l.all (elB P Q) = X := ⟨_, rfl⟩
  have HX := hid hX
  rw [hX] at HE3
  rw [hX]
  clear hX
  cases X
  case false =>
    have hE : E = 2 := by rw [HE3.out, if_neg (by simp)]
    have hV : V = 0 := by rw [HV.out, hE]; rfl
    subst hE hV
    go_wp2
    go_ret2
    exact ⟨rfl, HU2.out⟩
  have hE : E = 0 := by rw [HE3.out, if_pos rfl]
  have hV : V = jfold P 1 l := by rw [HV.out, hE]; rfl
  have HVV := hid hV
  have HB := hid (List.all_eq_true.1 HX.out)
  subst hE
  clear hV HE3 HV c0 c1 c2
  obtain ⟨o, ho⟩ : ∃ o, w.heap.size = o := ⟨_, rfl⟩
  rw [ho] at HG2
  rw [ho]
  clear ho
  go_wp2_with fail
  go_loopw [6, 24] (fun vo vi wr => ∃ (i : Nat) (a : Int), i ≤ n ∧ vi = .int .i64 i ∧ vo = .int .i64 a ∧ Hid (V = jfold P a (l.drop i)) ∧ Hid (elB P Q a = true) ∧ Hid (Up w wr) ∧ Hid (GrpAt wr o P Q G)) (fun _ vi _ => n - (intOf vi).toNat)
  case atStart => exact ⟨0, 1, by omega, rfl, rfl, HVV, hid (el_one (by omega)), HU2, HG2⟩
  case round =>
    obtain ⟨i, a, hi, rfl, rfl, HD, HA, HU, HGr⟩ := hrel
    obtain ⟨c0, c1, c2⟩ := HGr.out
    by_cases hl : i < n
    · have hl1 : i < l.length := by rw [HN.out]; exact hl
      obtain ⟨b1, o1, rfl, k1⟩ := ints_cell HC1.out HU.out hl1
      have HD2 : Hid (V = jfold P (a * l.getD i 0 % P) (l.drop (i + 1))) := hid (by rw [HD.out, drop_step hl1]; rfl)
      have HX := hid (HB.out _ (getD_mem hl1))
      clear hl1 HD
      generalize l.getD i 0 = x at *
      have HAn := hid (el_mul (by omega) (by omega) HA.out HX.out)
      go_wp2_with fail
      refine (gMul_ok P Q G a x _ hQ (HT.out.up HU.out) Hg.out HA.out HX.out).mono ?_
      rintro e w4 ⟨rfl, hU4⟩
      have HU4 := hid (HU.out.trans hU4)
      have HG4 := hid (HGr.out.up hU4)
      clear hU4 c0 c1 c2
      go_wp2_with fail
      go_roundw
      case rel => exact ⟨i + 1, _, by omega, by go_num, rfl, HD2, HAn, HU4, HG4⟩
      case measure => simp [intOf]; omega
    · obtain rfl : i = n := by omega
      have HE2 : Hid (V = a) := hid (by rw [HD.out, List.drop_eq_nil_of_le (by rw [HN.out]; omega)]; rfl)
      go_wp2
      go_ret2
      exact ⟨by rw [HE2.out]; rfl, HU.out⟩

/-- The first i elements are good. -/
def GoodE (P Q : Int) (l : List Int) (i : Nat) : Prop := ∀ j, j < i → elB P Q (l.getD j 0) = true

theorem GoodE.step {P Q : Int} {l : List Int} {i : Nat} (h : GoodE P Q l i) (h1 : elB P Q (l.getD i 0) = true) : GoodE P Q l (i + 1) := by
  intro j hj
  rcases Nat.lt_or_ge j i with h3 | h3
  · exact h j h3
  · obtain rfl : j = i := by omega
    exact h1

theorem GoodE.all {P Q : Int} {l : List Int} (h : GoodE P Q l l.length) : l.all (elB P Q) = true := by
  refine List.all_eq_true.2 fun x hx => ?_
  obtain ⟨i, hi, rfl⟩ := List.getElem_of_mem hx
  have := h i hi
  simpa [hi] using this

end Go.Proofs.YtmbbnjbohnobcaaDoor
