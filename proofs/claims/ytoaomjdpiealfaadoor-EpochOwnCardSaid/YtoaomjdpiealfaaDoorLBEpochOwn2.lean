/- Arguments are not modified, and a signed list shares no memory with them: specielaw30.EpochOwn returns true. For every input; the tables of packages math/bits, prime and digest as the program's text lays them. EpochOwn: the walk. -/
import Derived.Test.YtoaomjdpiealfaaDoorLBEpochOwn1
import Derived.Test.YtoaomjdpiealfaaDoorMB21
import Derived.Test.YtoaomjdpiealfaaDoorMB19
import Derived.Lay
namespace Go.Proofs.YtoaomjdpiealfaaDoor
open Go.RowKit Go.Sp
set_option maxHeartbeats 4000000
set_option maxRecDepth 20000

theorem own_cells {w : World} {base g c : Nat} {l : List Rec} {n : Nat} (h : OwnR 31 w base (.slice (some ⟨g, 0, none⟩) n c) l) : ∃ cs, Blk w g 31 cs ∧ base ≤ g ∧ ∀ j, j < l.length → ∃ x, cs[j * 11 + 3]? = some (.int .i64 x) := by
  have hh := h
  rcases h.2 with ⟨h1, _⟩ | ⟨g', cap, cur, he, hb, hg, hn, hm, hs, ht⟩
  · cases h1
  · injection he with e1 e2 e3
    injection e1 with e1
    injection e1 with e1
    subst e1 e2 e3
    refine ⟨cur, hg, hb, fun j hj => ?_⟩
    have h1 := World.ownsRow.cellAt hh (j * 11 + 3) (by omega)
    rw [recCells_at l j 3 hj (by omega), Blk.read hg] at h1
    exact ⟨_, h1⟩
theorem EpochOwn_walk (P Q G A B C x : Int) (h : Nat → Int) (ct : Int) (v : Value) (l : List Rec) (w : World) (hP : -9223372036854775808 ≤ P) (hQ : Q ≤ 9223372036854775807) (hT : Tab w) (hS : TabS w) (hB : Byt h) (hv : RecsAt w v l) (hn : NilOr v) (hI : ∀ r ∈ l, RecI r) :
    Calls Tryd.prog 4 #[bas P Q G A B C, .int .i64 x, v, drw h ct] w fun e w' => e = .returned (.bool true) ∧ Up w w' := by
  have HT := hid hT
  have HS := hid hS
  have HV := hid hv
  have M2 := hid (fun w' (hU : Up w w') (hl : l.length ≤ 50) => cloneR_any v l w' (hv.up hU) hn (by omega))
  have M3 := hid (fun w' (hU : Up w w') (hl : l.length ≤ 50) => eSign_any P Q G A B C x h ct v l w' hP hQ (hT.up hU) (hS.up hU) hB (hv.up hU) hn (by omega) hI)
  have M4 := hid (fun u w' (hU : Up w w') (hu : RecsAt w' u l) => equalR_same v u l w' (hv.up hU) hu)
  have HSz := hid (sizeDrw h ct)
  unfold drw at M3 ⊢
  generalize drwA h ct = D0 at *
  obtain ⟨_, a, cp, rfl, _⟩ := hv
  obtain ⟨m, hm⟩ : ∃ m, l.length = m := ⟨_, rfl⟩
  have HM := hid hm
  rw [hm] at HV M2 M3 M4 ⊢
  obtain ⟨o, ho⟩ : ∃ o, w.heap.size = o := ⟨_, rfl⟩
  have HO := hid ho
  obtain ⟨o1, ho1⟩ : ∃ o1, o + 1 = o1 := ⟨_, rfl⟩
  have HO1 := hid ho1
  clear hT hS hB hn hI hm ho ho1
  go_enter Tryd.func4, Tryd.ntmps4
  go_wp2_with fail
  refine (awake30 _ (HT.out.up (((Up.refl w).alloc _).alloc _)) (HS.out.up (((Up.refl w).alloc _).alloc _))).mono ?_
  rintro e w1 ⟨rfl, hU1⟩
  have HA1 := hid (((nums_six (w := w) (t := 25) HO.out).up ((Up.refl _).alloc _)).up hU1)
  have HD1 := hid (((Blk.new (g := o1) (t := 45) (cs := D0) (by have := HO.out; have := HO1.out; simp; omega) rfl)).up hU1)
  have HU1 := hid ((((Up.refl w).alloc _).alloc _).trans hU1)
  clear hU1
  rw [HO.out, HO1.out]
  obtain ⟨⟨c0, c1, c2⟩, c3, c4, c5⟩ := HA1.out
  by_cases hl : m > 50
  case pos =>
    have d1 : decide ((m : Int) > 50) = true := by simp; omega
    clear hl
    go_wp2
    go_ret
    exact ⟨rfl, HU1.out⟩
  have d1 : decide ((m : Int) > 50) = false := by simp; omega
  have hl5 : m ≤ 50 := by omega
  go_wp2_with fail
  refine (M2.out _ HU1.out hl5).mono ?_
  rintro e w2 ⟨vo, rfl, hO2, hU2⟩
  have HA2 := hid (HA1.out.up hU2)
  have HD2 := hid (HD1.out.up hU2)
  have HU2 := hid (HU1.out.trans hU2)
  obtain ⟨ao, co, rfl⟩ := hO2.shape
  have HR2 := hid hO2.recs
  rw [HM.out] at HR2 ⊢
  clear hU2 hO2 HA1 HD1 HU1 c0 c1 c2 c3 c4 c5
  obtain ⟨⟨c0, c1, c2⟩, c3, c4, c5⟩ := HA2.out
  go_wp2_with (refine wpList_load_row rfl 45 _ rfl o1 rfl 45 D0 (0, 0) _ HD2.out Tryd.underlying45 rfl HSz.out ?_)
  refine (M3.out _ HU2.out hl5).mono ?_
  rintro e w3 ⟨⟨u, cc, ss, D, E, rfl, hD1, hD2, hE0, hE1⟩, hU3⟩
  have HU3 := hid hU3
  have HE0 := hid hE0
  have HE1 := hid hE1
  have hD3 : (Tryd.prog.info? 45).map (·.size) = some D.size := by rw [hD1]; kernel_rfl
  have HD3 := hid hD3
  have HDa := hid hD1
  have HDb := hid hD2
  clear hE0 hE1 hD1 hD2 hD3 hU3 HA2 HD2 c0 c1 c2 c3 c4 c5 M2 M3
  obtain ⟨p, hp⟩ : ∃ p, w3.heap.size = p := ⟨_, rfl⟩
  have hwp : w2.heap.size ≤ p := by rw [← hp]; exact HU3.out.size
  have HPp := hid hp
  clear hp
  by_cases hE : E = 0
  case neg =>
    have dE : (E == 0) = false := by simpa using hE
    obtain ⟨rfl, rfl, rfl⟩ := HE1.out hE
    clear hE HE0 HE1
    obtain ⟨w4, hw4⟩ : ∃ w4, (w3.alloc (.cells #[nilS, .int .i64 0, .int .i64 0] 50)).alloc (.cells D 45) = w4 := ⟨_, rfl⟩
    have HW4 := hid (fun z => show ((w3.alloc (.cells #[nilS, .int .i64 0, .int .i64 0] 50)).alloc (.cells z 45)).setRow (w3.heap.size + 1) D = w4 by rw [show w3.heap.size + 1 = (w3.alloc (.cells #[nilS, .int .i64 0, .int .i64 0] 50)).heap.size by simp, World.setRow_alloc_new]; exact hw4)
    have HU4 := hid (show Up w2 w4 by rw [← hw4]; exact (HU3.out.alloc _).alloc _)
    clear hw4
    go_wp2_with (refine wpList_store_rowTo rfl 45 _ _ rfl rfl (w3.heap.size + 1) D rfl rfl 45 (drwA zeroH 0) (Blk.new (by simp) zero33) HD3.out (by rw [drwA_size, HDa.out]) HDb.out ?_; rw [HW4.out, HPp.out])
    refine (M4.out _ _ (HU2.out.trans HU4.out) (HR2.out.up HU4.out)).mono ?_
    rintro e w5 ⟨rfl, hU5⟩
    have HU5 := hid ((HU2.out.trans HU4.out).trans hU5)
    clear hU5
    go_wp2
    go_ret
    exact ⟨rfl, HU5.out⟩
  subst hE
  obtain ⟨hOR, _⟩ := HE0.out (by trivial)
  obtain ⟨au, cu, rfl⟩ := hOR.shape
  rw [HM.out] at hOR ⊢
  have HOR := hid hOR
  clear hOR HE0 HE1
  obtain ⟨w4, hw4⟩ : ∃ w4, (w3.alloc (.cells #[.slice au m cu, .int .i64 cc, .int .i64 ss] 50)).alloc (.cells D 45) = w4 := ⟨_, rfl⟩
  have HW4 := hid (fun z => show ((w3.alloc (.cells #[.slice au m cu, .int .i64 cc, .int .i64 ss] 50)).alloc (.cells z 45)).setRow (w3.heap.size + 1) D = w4 by rw [show w3.heap.size + 1 = (w3.alloc (.cells #[.slice au m cu, .int .i64 cc, .int .i64 ss] 50)).heap.size by simp, World.setRow_alloc_new]; exact hw4)
  have HU4 := hid (show Up w2 w4 by rw [← hw4]; exact (HU3.out.alloc _).alloc _)
  have HK4 : Hid (Blk w4 p 50 #[.slice au m cu, .int .i64 cc, .int .i64 ss]) := hid (by rw [← hw4]; exact (Blk.new HPp.out rfl).alloc _)
  have HR4 := hid (HOR.out.up (show Up w3 w4 by rw [← hw4]; exact ((Up.refl w3).alloc _).alloc _))
  have k0 := HK4.out.val (i := 0) rfl
  clear hw4 HOR
  go_wp2_with (refine wpList_store_rowTo rfl 45 _ _ rfl rfl (w3.heap.size + 1) D rfl rfl 45 (drwA zeroH 0) (Blk.new (by simp) zero33) HD3.out (by rw [drwA_size, HDa.out]) HDb.out ?_; rw [HW4.out, HPp.out])
  clear k0 HW4 HPp HD3 HDa HDb
  have hpw : w.heap.size ≤ p := Nat.le_trans HU2.out.size hwp
  have HLoop : Hid (m = 0 ∨ ∃ g cs, au = some ⟨g, 0, none⟩ ∧ Blk w4 g 31 cs ∧ w2.heap.size ≤ g ∧ ∀ j, j < m → ∃ x, cs[j * 11 + 3]? = some (.int .i64 x)) := hid (by
    rcases HR4.out.2 with ⟨_, h0⟩ | ⟨g, cap, cur, he, _⟩
    · left; rw [HM.out] at h0; exact h0
    · right
      injection he with e1 e2 e3
      subst e1
      obtain ⟨cs, h1, h2, h3⟩ := own_cells HR4.out
      rw [HM.out] at h3
      exact ⟨g, cs, rfl, h1, h2, h3⟩)
  have hm0 : m = 0 ∨ 0 < m := by omega
  rcases hm0 with rfl | hm0
  · go_loopw [35] (fun vi wr => vi = .int .i64 0 ∧ Hid (Up w2 wr)) (fun _ _ => 0)
    case atStart => exact ⟨rfl, HU4⟩
    case round =>
      obtain ⟨rfl, HUr⟩ := hrel
      go_wp2_with fail
      refine (M4.out _ _ (HU2.out.trans HUr.out) (HR2.out.up HUr.out)).mono ?_
      rintro e w5 ⟨rfl, hU5⟩
      have HU5 := hid ((HU2.out.trans HUr.out).trans hU5)
      clear hU5
      go_wp2
      go_ret
      exact ⟨rfl, HU5.out⟩
  · obtain ⟨g, cs0, rfl, hg0, hg2, hgc⟩ := HLoop.out.resolve_left (by omega)
    have HG0 := hid hg0
    have HC0 := hid hgc
    have hgp : g ≠ p := by
      intro e
      subst e
      have h1 : w4.heap[g]? = _ := hg0
      have h2 : w4.heap[g]? = _ := HK4.out
      rw [h1] at h2
      simp only [Option.some.injEq, Obj.cells.injEq] at h2
      exact absurd h2.2.1 (by decide)
    clear hg0 hgc HLoop HR4
    go_loopw [35] (fun vi wr => ∃ (i : Nat) (cs : Array Value), i ≤ m ∧ vi = .int .i64 i ∧ Hid (Blk wr g 31 cs) ∧ Hid (∀ j, j < m → ∃ x, cs[j * 11 + 3]? = some (.int .i64 x)) ∧ Hid (Blk wr p 50 #[.slice (some ⟨g, 0, none⟩) m cu, .int .i64 cc, .int .i64 ss]) ∧ Hid (Up w2 wr)) (fun vi _ => m - (intOf vi).toNat)
    case atStart => exact ⟨0, cs0, by omega, rfl, HG0, HC0, HK4, HU4⟩
    case round =>
      clear HG0 HC0 HK4 HU4
      obtain ⟨i, cs, hi, rfl, HG, HC, HK, HUr⟩ := hrel
      by_cases hlt : i < m
      · obtain ⟨iv, hiv⟩ := HC.out i hlt
        have q3 := HG.out.val hiv
        have y3 := HG.out.thawed (i * 11 + 3)
        have k0 := HK.out.val (i := 0) rfl
        have HG2 := hid (HG.out.wrote (i * 11 + 3) (.int .i64 (wrap64 (iv + 1))))
        have HK2 := hid (HK.out.apart (a := ⟨g, i * 11 + 3, none⟩) (show p ≠ g by omega) (.int .i64 (wrap64 (iv + 1))))
        have HU3 := hid (HUr.out.setCell (a := ⟨g, i * 11 + 3, none⟩) hg2 (.int .i64 (wrap64 (iv + 1))))
        have hsz : i * 11 + 3 < cs.size := (Array.getElem?_eq_some_iff.1 hiv).1
        have HC2 : Hid (∀ j, j < m → ∃ x, (cs.setIfInBounds (i * 11 + 3) (.int .i64 (wrap64 (iv + 1))))[j * 11 + 3]? = some (.int .i64 x)) := hid (fun j hj => by
          by_cases he : j = i
          · subst he
            exact ⟨_, by rw [Array.getElem?_setIfInBounds, if_pos rfl, if_pos hsz]⟩
          · obtain ⟨x', hx'⟩ := HC.out j hj
            exact ⟨x', by rw [Array.getElem?_setIfInBounds, if_neg (by omega)]; exact hx'⟩)
        clear HC hiv hsz
        go_wp2_with fail
        go_roundw
        case rel => exact ⟨i + 1, _, by omega, by go_num, HG2, HC2, HK2, HU3⟩
        case measure => simp [intOf]; omega
      · obtain rfl : i = m := by omega
        go_wp2_with fail
        refine (M4.out _ _ (HU2.out.trans HUr.out) (HR2.out.up HUr.out)).mono ?_
        rintro e w5 ⟨rfl, hU5⟩
        have HU5 := hid ((HU2.out.trans HUr.out).trans hU5)
        clear hU5
        go_wp2
        go_ret
        exact ⟨rfl, HU5.out⟩
end Go.Proofs.YtoaomjdpiealfaaDoor
namespace Go.Proofs.YtoaomjdpiealfaaDoor.lawEpochOwn
open Go.Proofs.YtoaomjdpiealfaaDoor Go.ChangeShapes Go.WideShapes Go.ChangeAt Go.RowKit Go.Sp

set_option maxRecDepth 100000 in
theorem contract (H : Type) (enc : TypeId × Value → H) (W : World) (base : Nat) (args : Array Value) (ds gs : List (DataW H)) (before : List MemPlace)
    (hval : ∀ (j : Nat) t v, Tryd.f4.params[j]? = some t → args[j]? = some v → Value.okWide Tryd.prog W .any base t v)
    (hW : DataW.Whole enc Tryd.prog Tryd.f4.params.toList Rows.epochOwnSpec.vars false W args.toList ds gs before) (hL : laidMetH Tryd.prog Rows.epochOwnRow.laid W) :
    Calls Tryd.prog 4 args W fun e W' => ∃ v, e = .returned v ∧ Rows.epochOwnSpec.post enc Tryd.prog Tryd.f4 false true false false W args v W' := by
  have hT := tab_of_four hL
  have hS := tabS_of_four hL
  have hW' := hW
  obtain ⟨p, q, hA0, hV, rfl, hfz, hnd⟩ := hW
  have hA : DataW.TrodAll enc Tryd.prog W 0 (fun _ => true) true Tryd.f4.params.toList args.toList ds p := hA0
  rw [Tryd.params4] at hA hval
  obtain ⟨v0, vs0, d0, ds0, p0, q0, hargs, rfl, rfl, h0, r0⟩ := trodAll_cons hA
  obtain ⟨v1, vs1, d1, ds1, p1, q1, rfl, rfl, rfl, h1, r1⟩ := trodAll_cons r0
  obtain ⟨v2, vs2, d2, ds2, p2, q2, rfl, rfl, rfl, h2, r2⟩ := trodAll_cons r1
  obtain ⟨v3, vs3, d3, ds3, p3, q3, rfl, rfl, rfl, h3, r3⟩ := trodAll_cons r2
  obtain ⟨rfl, rfl, rfl⟩ := trodAll_nil r3
  obtain rfl : args = #[v0, v1, v2, v3] := by cases args; simp_all
  obtain ⟨rfl, rfl⟩ := trodVars_none hV
  obtain ⟨P0, Q0, G0, A0, B0, C0, rfl, bP0, bQ0, bG0, bA0, bB0, bC0⟩ := open_bases (hval 0 25 v0 rfl rfl) h0
  obtain ⟨x1, rfl, bx1, by1⟩ := open_i64 (hval 1 3 v1 rfl rfl) h1
  obtain ⟨xs2, hs2, hn2, bs2⟩ := open_recs (hval 2 26 v2 rfl rfl) h2
  obtain ⟨sd3, ct3, rfl, hd3, bc3, cc3⟩ := open_draw (hval 3 45 v3 rfl rfl) h3
  refine (EpochOwn_walk P0 Q0 G0 A0 B0 C0 x1 sd3 ct3 v2 xs2 W bP0.1 bQ0.2 hT hS hd3 hs2 hn2 bs2).mono fun e W' ⟨he, hU⟩ => ?_
  exact ⟨_, he, law_shut Tryd.underlying4 (by kernel_rfl) rfl rfl laidOut (by kernel_rfl) hW' hU⟩

theorem laid_met (os : Os) : laidMet Tryd.prog Rows.epochOwnRow.laid ((World.laidAll Tryd.prog os laidFour).forCall (fun _ _ => 0) ⟨#[], #[.agg #[.int .i64 0, .int .i64 0, .int .i64 0, .int .i64 0, .int .i64 0, .int .i64 0], .int .i64 0, .slice none 0 0, drw zeroH 0], []⟩).memory :=
  laidMet_laidAll _ (by kernel_rfl) (by kernel_rfl)
theorem reads (os : Os) {H : Type} (enc : TypeId × Value → H) : ∃ places, DataW.whole enc Tryd.prog ((World.laidAll Tryd.prog os laidFour).forCall (fun _ _ => 0) ⟨#[], #[.agg #[.int .i64 0, .int .i64 0, .int .i64 0, .int .i64 0, .int .i64 0, .int .i64 0], .int .i64 0, .slice none 0 0, drw zeroH 0], []⟩).memory Tryd.f4.params.toList Rows.epochOwnSpec.vars false (#[.agg #[.int .i64 0, .int .i64 0, .int .i64 0, .int .i64 0, .int .i64 0, .int .i64 0], .int .i64 0, .slice none 0 0, drw zeroH 0] : Array Value).toList 8 = some ([.agg [.agg [.lit (.int .i64 0), .lit (.int .i64 0), .lit (.int .i64 0)], .lit (.int .i64 0), .lit (.int .i64 0), .lit (.int .i64 0)], .lit (.int .i64 0), .nil, .agg [.agg [.lit (.int .u8 0), .lit (.int .u8 0), .lit (.int .u8 0), .lit (.int .u8 0), .lit (.int .u8 0), .lit (.int .u8 0), .lit (.int .u8 0), .lit (.int .u8 0), .lit (.int .u8 0), .lit (.int .u8 0), .lit (.int .u8 0), .lit (.int .u8 0), .lit (.int .u8 0), .lit (.int .u8 0), .lit (.int .u8 0), .lit (.int .u8 0), .lit (.int .u8 0), .lit (.int .u8 0), .lit (.int .u8 0), .lit (.int .u8 0), .lit (.int .u8 0), .lit (.int .u8 0), .lit (.int .u8 0), .lit (.int .u8 0), .lit (.int .u8 0), .lit (.int .u8 0), .lit (.int .u8 0), .lit (.int .u8 0), .lit (.int .u8 0), .lit (.int .u8 0), .lit (.int .u8 0), .lit (.int .u8 0)], .lit (.int .i64 0)]], [], places) :=
  ⟨[], by kernel_rfl⟩

set_option maxRecDepth 100000 in
theorem lifted (os : Os) (started : os.Started) (H : Type) (enc : TypeId × Value → H) (F : Stop.Interp) :
    ReturnsInHanded {} Tryd.checked os 4 .any ((OpenSpec.ofChange Rows.epochOwnSpec).preRow enc Tryd.prog Tryd.f4 Rows.epochOwnRow.domain false Rows.epochOwnRow.laid) (((OpenSpec.ofChange Rows.epochOwnSpec).at F).post enc Tryd.prog Tryd.f4 false true false false) := by
  obtain ⟨places, hx⟩ := reads os enc
  refine returnsInHanded_of_row (C := Tryd.checked) (s := OpenSpec.ofChange Rows.epochOwnSpec) own started (by kernel_rfl) Tryd.func4
    (witness_row_at (enc := enc) (C := Tryd.checked) false (World.laidAll Tryd.prog os laidFour) #[.agg #[.int .i64 0, .int .i64 0, .int .i64 0, .int .i64 0, .int .i64 0, .int .i64 0], .int .i64 0, .slice none 0 0, drw zeroH 0] (World.laidAll_os _ _ _) (by kernel_rfl) (by kernel_rfl) (by kernel_rfl)
      (OpenSpec.preRow_of_cond 8 hx (by kernel_rfl) (fun k hk => by cases hk) (by kernel_rfl) (laid_met os))) ?_
  intro W base args ds gs before hval hW _ _ _ hL _ _
  exact contract H enc W base args ds gs before hval hW hL

theorem said : Rows.EpochOwnSaid :=
  OpenClaim.holds_of_cond 4 Tryd.f4 rfl rfl rfl rfl rfl rfl rfl ⟨rfl, rfl, rfl, rfl, rfl⟩ rfl rfl rfl rfl rfl (by kernel_rfl) Tryd.func4 (by kernel_rfl)
    (of_decide_eq_true (by kernel_rfl)) (by unfold Func.isWrapper; first | (rw [if_pos (by decide +kernel)]; kernel_rfl) | (rw [if_neg (by decide +kernel)]; exact ⟨rfl, rfl⟩))
    (fun os started H enc _ F => by rw [OpenClaim.pre_eq_preRow]; exact lifted os started H enc F)

theorem plain (f : FuncId) (fn : Func) (hf : Tryd.pinned.checked.prog.funcNamed "specie/specielaw30.EpochOwn" = some f) (hfn : Tryd.pinned.checked.prog.funcs[f]? = some fn) :
    false = Tryd.pinned.checked.prog.looks [] ∧ ∀ (j : Nat) t, fn.params[j]? = some t → Tryd.pinned.checked.prog.wantsStandIn t = false := by
  obtain rfl : f = 4 := Option.some.inj ((show Tryd.prog.funcNamed "specie/specielaw30.EpochOwn" = some 4 by kernel_rfl).symm.trans hf) |>.symm
  obtain rfl : fn = Tryd.f4 := (Option.some.inj (Tryd.func4.symm.trans hfn)).symm
  refine ⟨by kernel_rfl, fun j t ht => ?_⟩
  have hall : Tryd.f4.params.toList.all (fun t => !Tryd.prog.wantsStandIn t) = true := by kernel_rfl
  have := List.all_eq_true.1 hall t (by rw [← Array.mem_toList_iff.symm]; exact Array.mem_of_getElem? ht)
  exact (by simpa using this : Tryd.prog.wantsStandIn t = false)

/-- The card. -/
theorem card : Rows.EpochOwnCardSaid :=
  Claim7.holds_tied_plain_at .later [] _ _ _ _ said (fun _ h => by cases h) (by kernel_rfl) (fun _ h => by cases h) epochOwn_row_tie rfl ⟨rfl, rfl⟩ (by kernel_rfl) rfl plain (by kernel_rfl)
end Go.Proofs.YtoaomjdpiealfaaDoor.lawEpochOwn
