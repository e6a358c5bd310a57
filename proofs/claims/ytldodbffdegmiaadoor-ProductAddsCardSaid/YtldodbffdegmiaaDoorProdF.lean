/- specieref12.Product; the products of elements. -/
import Derived.Test.YtldodbffdegmiaaDoorProdE
import Derived.Test.YtldodbffdegmiaaDoorQuiet
namespace Go.Proofs.YtldodbffdegmiaaDoor
open Go.RowKit Go.Sp
set_option maxHeartbeats 2000000
set_option maxRecDepth 20000

/-- The first i bases and exponents are good. -/
def GoodTo (P Q : Int) (bs es : List Int) (i : Nat) : Prop := ∀ j, j < i → elB P Q (bs.getD j 0) = true ∧ exB Q (es.getD j 0) = true

theorem GoodTo.step {P Q : Int} {bs es : List Int} {i : Nat} (h : GoodTo P Q bs es i) (h1 : elB P Q (bs.getD i 0) = true) (h2 : exB Q (es.getD i 0) = true) : GoodTo P Q bs es (i + 1) := by
  intro j hj
  rcases Nat.lt_or_ge j i with h3 | h3
  · exact h j h3
  · obtain rfl : j = i := by omega
    exact ⟨h1, h2⟩

theorem GoodTo.all {P Q : Int} {bs es : List Int} (hl : es.length = bs.length) (h : GoodTo P Q bs es bs.length) : bs.all (elB P Q) = true ∧ es.all (exB Q) = true := by
  constructor
  · refine List.all_eq_true.2 fun x hx => ?_
    obtain ⟨i, hi, rfl⟩ := List.getElem_of_mem hx
    have := (h i hi).1
    simpa [hi] using this
  · refine List.all_eq_true.2 fun x hx => ?_
    obtain ⟨i, hi, rfl⟩ := List.getElem_of_mem hx
    have := (h i (by omega)).2
    simpa [hi] using this

theorem not_all {p : Int → Bool} {xs : List Int} {i : Nat} (hi : i < xs.length) (h : p (xs.getD i 0) = false) : xs.all p = false := by
  rw [List.all_eq_false]
  exact ⟨_, getD_mem hi, by rw [h]; simp⟩

set_option maxHeartbeats 4000000 in
theorem rProduct_any (P Q G : Int) (v1 v2 : Value) (bs es : List Int) (w : World) (hP : -9223372036854775808 ≤ P) (hQ : Q ≤ 9223372036854775807) (h1 : IntsAt w v1 bs) (h2 : IntsAt w v2 es) :
    Calls Tryd.prog 47 #[grp P Q G, v1, v2] w fun e w' => e = .returned (.tuple #[.int .i64 (prV P Q G bs es), .int .i64 (prE P Q G bs es)]) ∧ Up w w' := by
  have HI1 := hid h1
  have HI2 := hid h2
  obtain ⟨l1, a1, cp1, rfl, hc1⟩ := h1
  obtain ⟨l2, a2, cp2, rfl, hc2⟩ := h2
  have HC1 := hid hc1
  have HC2 := hid hc2
  have HE : Hid (prE P Q G bs es = if gvB P Q G = true ∧ bs.length = es.length then (if 100 < bs.length then 5 else if bs.all (elB P Q) = true ∧ es.all (exB Q) = true then 0 else 2) else 1) := hid rfl
  have HV : Hid (prV P Q G bs es = if prE P Q G bs es = 0 then pfold P Q 1 bs es else 0) := hid rfl
  generalize prE P Q G bs es = E at *
  generalize prV P Q G bs es = V at *
  obtain ⟨n, hn⟩ : ∃ n, bs.length = n := ⟨_, rfl⟩
  obtain ⟨m, hm⟩ : ∃ m, es.length = m := ⟨_, rfl⟩
  have HN := hid hn
  have HM := hid hm
  rw [hn] at HE HI1 l1
  rw [hm] at HE HI2 l2
  rw [hn, hm]
  clear hn hm hc1 hc2
  by_cases hg : gvB P Q G = true
  case neg =>
    have hE : E = 1 := by rw [HE.out, if_neg (fun h => hg h.1)]
    have hV : V = 0 := by rw [HV.out, hE]; rfl
    subst hE hV
    have hg' : gvB P Q G = false := by simpa using hg
    have Hg := hid hg'
    clear hg hg'
    go_enter Tryd.func47, Tryd.ntmps47
    go_wp2_with fail
    refine (rValid_any P Q G _ hP hQ).mono ?_
    rintro e w1 ⟨rfl, hU1⟩
    rw [Hg.out]
    go_wp2
    go_ret2
    exact ⟨rfl, ((Up.refl w).alloc _).trans hU1⟩
  have Hg := hid hg
  by_cases he : n = m
  case neg =>
    have hE : E = 1 := by rw [HE.out, if_neg (fun h => he h.2)]
    have hV : V = 0 := by rw [HV.out, hE]; rfl
    subst hE hV
    have d1 : (n != m) = true := by simpa using he
    have d2 : ((n : Int) != (m : Int)) = true := by simp; omega
    clear hg he
    go_enter Tryd.func47, Tryd.ntmps47
    go_wp2_with fail
    refine (rValid_any P Q G _ hP hQ).mono ?_
    rintro e w1 ⟨rfl, hU1⟩
    rw [Hg.out]
    go_wp2
    go_ret2
    exact ⟨rfl, ((Up.refl w).alloc _).trans hU1⟩
  obtain rfl := he
  have HE2 : Hid (E = if 100 < n then 5 else if bs.all (elB P Q) = true ∧ es.all (exB Q) = true then 0 else 2) := hid (by rw [HE.out, if_pos ⟨hg, rfl⟩])
  have g := gv_iff.1 hg
  have g1 := g.P61
  have g2 := g.P4
  have g3 := g.Q3
  clear hg HE g
  by_cases hb : 100 < n
  case pos =>
    have hE : E = 5 := by rw [HE2.out, if_pos hb]
    have hV : V = 0 := by rw [HV.out, hE]; rfl
    subst hE hV
    go_enter Tryd.func47, Tryd.ntmps47
    go_wp2_with fail
    refine (rValid_any P Q G _ hP hQ).mono ?_
    rintro e w1 ⟨rfl, hU1⟩
    rw [Hg.out]
    have d1 : decide (100 < n) = true := by simpa using hb
    go_wp2
    go_ret2
    exact ⟨rfl, ((Up.refl w).alloc _).trans hU1⟩
  have d1 : decide (100 < n) = false := by simpa using hb
  have HE3 : Hid (E = if bs.all (elB P Q) = true ∧ es.all (exB Q) = true then 0 else 2) := hid (by rw [HE2.out, if_neg hb])
  have HBad : Hid (∀ i, i < n → (elB P Q (bs.getD i 0) = false ∨ exB Q (es.getD i 0) = false) → E = 2 ∧ V = 0) := hid (fun i hi h => by
    have hE : E = 2 := by
      rw [HE3.out, if_neg]
      rintro ⟨q1, q2⟩
      rcases h with h | h
      · rw [not_all (by rw [HN.out]; exact hi) h] at q1; cases q1
      · rw [not_all (by rw [HM.out]; exact hi) h] at q2; cases q2
    exact ⟨hE, by rw [HV.out, hE]; rfl⟩)
  clear HE2
  go_enter Tryd.func47, Tryd.ntmps47
  go_wp2_with fail
  refine (rValid_any P Q G _ hP hQ).mono ?_
  rintro e w1 ⟨rfl, hU1⟩
  rw [Hg.out]
  have HG := hid (box_reads rfl hU1)
  have HU1 := hid (((Up.refl w).alloc _).trans hU1)
  clear hU1
  obtain ⟨c0, c1, c2⟩ := HG.out
  go_wp2_with fail
  obtain ⟨o, ho⟩ : ∃ o, w.heap.size = o := ⟨_, rfl⟩
  rw [ho] at HG
  rw [ho]
  clear ho c0 c1 c2
  go_loopw [8] (fun vi wr => ∃ (i : Nat), i ≤ n ∧ vi = .int .i64 i ∧ Hid (GoodTo P Q bs es i) ∧ Hid (Up w wr) ∧ Hid (GrpAt wr o P Q G)) (fun vi _ => n - (intOf vi).toNat)
  case atStart => exact ⟨0, by omega, rfl, hid (fun j hj => by omega), HU1, HG⟩
  case round =>
    obtain ⟨i, hi, rfl, HD, HU, HGr⟩ := hrel
    obtain ⟨c0, c1, c2⟩ := HGr.out
    by_cases hl : i < n
    · have hl1 : i < bs.length := by rw [HN.out]; exact hl
      have hl2 : i < es.length := by rw [HM.out]; exact hl
      obtain ⟨b1, o1, rfl, k1⟩ := ints_cell HC1.out HU.out hl1
      obtain ⟨b2, o2, rfl, k2⟩ := ints_cell HC2.out HU.out hl2
      have HB1 := hid (HBad.out i hl)
      have HS := hid (fun h1 h2 => HD.out.step (i := i) h1 h2)
      clear hl1 hl2 HD
      generalize bs.getD i 0 = x at *
      generalize es.getD i 0 = y at *
      by_cases hx : elB P Q x = true
      · have Hx := hid hx
        have HM : Hid (∀ w', Calls Tryd.prog 55 #[grp P Q G, .int .i64 x] w' fun e w'' => e = .returned (.bool true) ∧ Up w' w'') := hid (fun w' => by
          have h := rMember_any P Q G x w' g1 (by omega) hQ
          rw [hx] at h
          exact h)
        clear hx
        go_wp2_with fail
        have f0 := cellF c0
        have f1 := cellF c1
        have f2 := cellF c2
        have f3 := cellF k1
        have f4 := cellF k2
        refine wp_region_up (by kernel_rfl) (by kernel_rfl) ?_
        repeat (go_big_quiet_step ((first
          | (go_at_call 55; exact Calls.up_of (HM.out _))
          | (go_at_call 45; exact Calls.up_of (rExponent_any P Q G y _)))))
        refine wpQuiet_nil ?_
        rintro _ ⟨p, rfl⟩
        have HU3 := hid (HU.out.trans p.up)
        have HG3 := hid (HGr.out.up p.up)
        by_cases hy : exB Q y = true
        · have Hy := hid hy
          rw [hy]
          clear hy
          go_wp2_with fail
          go_roundw
          case rel => exact ⟨i + 1, by omega, by go_num, hid (HS.out Hx.out Hy.out), HU3, HG3⟩
          case measure => simp [intOf]; omega
        · have hy' : exB Q y = false := by simpa using hy
          obtain ⟨rfl, rfl⟩ := HB1.out (.inr hy')
          rw [hy']
          clear hy hy'
          go_wp2
          go_ret2
          exact ⟨rfl, HU3.out⟩
      · have hx' : elB P Q x = false := by simpa using hx
        obtain ⟨rfl, rfl⟩ := HB1.out (.inl hx')
        have HM : Hid (∀ w', Calls Tryd.prog 55 #[grp P Q G, .int .i64 x] w' fun e w'' => e = .returned (.bool false) ∧ Up w' w'') := hid (fun w' => by
          have h := rMember_any P Q G x w' g1 (by omega) hQ
          rw [hx'] at h
          exact h)
        clear hx hx'
        go_wp2_with fail
        have f0 := cellF c0
        have f1 := cellF c1
        have f2 := cellF c2
        have f3 := cellF k1
        refine wp_region_up (by kernel_rfl) (by kernel_rfl) ?_
        repeat (go_big_quiet_step ((first
          | (go_at_call 55; exact Calls.up_of (HM.out _)))))
        refine wpQuiet_nil ?_
        rintro _ ⟨p, rfl⟩
        go_wp2
        go_ret2
        exact ⟨rfl, HU.out.trans p.up⟩
    · obtain rfl : i = n := by omega
      obtain ⟨q1, q2⟩ := GoodTo.all (bs := bs) (es := es) (by rw [HN.out, HM.out]) (by rw [HN.out]; exact HD.out)
      have hE : E = 0 := by rw [HE3.out, if_pos ⟨q1, q2⟩]
      have hV : V = pfold P Q 1 bs es := by rw [HV.out, hE]; rfl
      have HVV := hid hV
      have Q1 := hid q1
      have Q2 := hid q2
      subst hE
      clear hV q1 q2 HE3 HV
      go_wp2_with fail
      refine (rproduct_ok P Q G _ _ bs es _ hQ Hg.out (List.all_eq_true.1 Q1.out) (ex_range hQ Q2.out) (by rw [HN.out, HM.out]) (HI1.out.up HU.out) (HI2.out.up HU.out)).mono ?_
      rintro e w4 ⟨rfl, hU4⟩
      rw [← HVV.out]
      go_wp2
      go_ret2
      exact ⟨rfl, HU.out.trans hU4⟩
end Go.Proofs.YtldodbffdegmiaaDoor
