/- ProductAdds: the walk. -/
import Derived.Test.YtldodbffdegmiaaDoorProdD
import Derived.Test.YtldodbffdegmiaaDoorProdE
import Derived.Test.YtldodbffdegmiaaDoorAddsP
import Derived.Test.YtldodbffdegmiaaDoorLawTenC
import Derived.Test.YtldodbffdegmiaaDoorWhole
import Derived.Test.YtldodbffdegmiaaDoorQuiet
import Derived.Test.YtldodbffdegmiaaDoorAwakeTwelve
import Derived.Deep.OwnRows
import Derived.BigRegion
namespace Go.Proofs.YtldodbffdegmiaaDoor
open Go.RowKit Go.Sp
set_option maxHeartbeats 1500000
set_option maxRecDepth 20000

theorem made_zero (n : Nat) : madeCells #[.int .i64 0] n = Array.replicate n (.int .i64 0) := by
  apply Array.ext
  · simp [madeCells]
  · intro i h1 h2
    simp [madeCells, Nat.mod_one]

theorem three_new {w : World} {t : TypeId} {Z : Array Value} {B : Nat} (hB : w.heap.size = B) :
    BoxAt (((w.alloc (.cells Z t)).alloc (.cells Z t)).alloc (.cells Z t)).drew B t Z ∧ BoxAt (((w.alloc (.cells Z t)).alloc (.cells Z t)).alloc (.cells Z t)).drew (B + 1) t Z ∧ BoxAt (((w.alloc (.cells Z t)).alloc (.cells Z t)).alloc (.cells Z t)).drew (B + 1 + 1) t Z ∧ Up w (((w.alloc (.cells Z t)).alloc (.cells Z t)).alloc (.cells Z t)).drew := by
  subst hB
  have h1 := BoxAt.new w t Z
  have h2 := BoxAt.new (w.alloc (.cells Z t)) t Z
  have h3 := BoxAt.new ((w.alloc (.cells Z t)).alloc (.cells Z t)) t Z
  simp at h2 h3
  exact ⟨((h1.alloc _).alloc _).up (Up.refl _).drew, (h2.alloc _).up (Up.refl _).drew, h3.up (Up.refl _).drew, ((((Up.refl w).alloc _).alloc _).alloc _).drew⟩

/-- A slice of n cells, the first i of them filled. -/
def fillA (f : Nat → Int) (i n : Nat) : Array Value := (Array.range n).map fun j => .int .i64 (if j < i then f j else 0)

theorem fillA_zero (f : Nat → Int) (n : Nat) : fillA f 0 n = Array.replicate n (.int .i64 0) := by
  apply Array.ext
  · simp [fillA]
  · intro i h1 h2
    simp [fillA]

theorem fillA_get (f : Nat → Int) {i n j : Nat} (hj : j < n) : (fillA f i n)[j]? = some (.int .i64 (if j < i then f j else 0)) := by
  simp [fillA, hj]

theorem fillA_put (f : Nat → Int) {i n : Nat} (hi : i < n) : (fillA f i n).setIfInBounds i (.int .i64 (f i)) = fillA f (i + 1) n := by
  apply Array.ext_getElem?
  intro j
  rw [Array.getElem?_setIfInBounds]
  have hs : (fillA f i n).size = n := by simp [fillA]
  rw [hs]
  by_cases hj : j < n
  · rw [fillA_get f hj, fillA_get f hj]
    by_cases h : i = j
    · subst h
      simp [hi]
    · have e1 : (j < i + 1) ↔ (j < i) := by omega
      simp [h, e1]
  · have e1 : ¬ i = j := by omega
    rw [if_neg e1]
    simp [fillA, hj]

theorem fillA_ints {w : World} {x n : Nat} {f : Nat → Int} (hn : n ≤ 9223372036854775807) (h : BoxAt w x 3 (fillA f n n)) : IntsAt w (.slice (some ⟨x, 0, none⟩) n n) ((List.range n).map f) := by
  refine ⟨by simpa using hn, some ⟨x, 0, none⟩, n, by simp, fun _ => ⟨x, 0, rfl, fun i hi => ?_⟩⟩
  have hi' : i < n := by simpa using hi
  have := h.val (fillA_get f (i := n) hi')
  rw [if_pos hi'] at this
  simpa [hi'] using this

theorem el_of_one {P Q : Int} (hP : 2 ≤ P) : elB P Q 1 = true := by
  unfold elB pw
  rw [Int.one_pow, Int.emod_eq_of_lt (by omega) (by omega)]
  simp
  omega

theorem fillA_none (i n : Nat) : fillA (fun _ => 0) i n = Array.replicate n (.int .i64 0) := by
  apply Array.ext
  · simp [fillA]
  · intro j h1 h2
    simp [fillA]

theorem ProductAdds_walk (P Q G k : Int) (v1 v2 v3 : Value) (bs ms cs : List Int) (w : World) (hP : -9223372036854775808 ≤ P) (hQ : Q ≤ 9223372036854775807) (hT : Tab w) (h1 : IntsAt w v1 bs) (h2 : IntsAt w v2 ms) (h3 : IntsAt w v3 cs) :
    Calls Tryd.prog 9 #[grp P Q G, v1, v2, v3, .int .i64 k] w fun e w' => e = .returned (.bool true) ∧ Up w w' := by
  have HT := hid hT
  have HI2 := hid h2
  have HI3 := hid h3
  have HPA := hid (fun v xs w' (hU : Up w w') (hv : IntsAt w' v xs) => Product_any P Q G v1 v bs xs w' hP hQ (HT.out.up hU) (h1.up hU) hv)
  obtain ⟨l1, a1, cp1, rfl, _⟩ := h1
  obtain ⟨l2, a2, cp2, rfl, hc2⟩ := h2
  obtain ⟨l3, a3, cp3, rfl, hc3⟩ := h3
  have HC2 := hid hc2
  have HC3 := hid hc3
  clear hc2 hc3
  obtain ⟨n1, hn1⟩ : ∃ n, bs.length = n := ⟨_, rfl⟩
  obtain ⟨n2, hn2⟩ : ∃ n, ms.length = n := ⟨_, rfl⟩
  obtain ⟨n3, hn3⟩ : ∃ n, cs.length = n := ⟨_, rfl⟩
  have HN1 := hid hn1
  have HN2 := hid hn2
  have HN3 := hid hn3
  rw [hn1] at HPA l1
  rw [hn2] at HI2 l2
  rw [hn3] at HI3 l3
  rw [hn1, hn2, hn3]
  clear hT hn1 hn2 hn3
  go_enter Tryd.func9, Tryd.ntmps9
  go_wp2_with fail
  refine (awake12 _ (HT.out.up ((Up.refl w).alloc _))).mono ?_
  rintro e w1 ⟨rfl, hU1⟩
  have HG1 := hid (box_reads rfl hU1)
  have HU1 := hid (((Up.refl w).alloc _).trans hU1)
  clear hU1
  obtain ⟨o, ho⟩ : ∃ o, w.heap.size = o := ⟨_, rfl⟩
  have HOo := hid ho
  rw [ho] at HG1
  rw [ho]
  clear ho
  obtain ⟨c0, c1, c2⟩ := HG1.out
  by_cases q1 : 30 < n1
  case pos =>
    have d1 : decide (30 < n1) = true := by simpa using q1
    go_wp2
    go_ret
    exact ⟨rfl, HU1.out⟩
  have d1 : decide (30 < n1) = false := by simpa using q1
  go_wp2_with fail
  refine (rValid_any P Q G _ hP hQ).mono ?_
  rintro e w2 ⟨rfl, hU2⟩
  have HG2 := hid (HG1.out.up hU2)
  have HU2 := hid (HU1.out.trans hU2)
  clear hU2 HG1 HU1 c0 c1 c2
  by_cases hg : gvB P Q G = true
  case neg =>
    have hg' : gvB P Q G = false := by simpa using hg
    rw [hg']
    clear hg hg'
    go_wp2
    go_ret
    exact ⟨rfl, HU2.out⟩
  have Hg := hid hg
  have g := gv_iff.1 hg
  have g1 := g.P61
  have g2 := g.P4
  have g3 := g.Q3
  rw [hg]
  clear hg g
  obtain ⟨c0, c1, c2⟩ := HG2.out
  by_cases q2 : k < 0
  case pos =>
    have d2 : decide (k < 0) = true := by simpa using q2
    go_wp2
    go_ret
    exact ⟨rfl, HU2.out⟩
  have d2 : decide (k < 0) = false := by simpa using q2
  by_cases q3 : Q ≤ k
  case pos =>
    have d3 : decide (Q ≤ k) = true := by simpa using q3
    go_wp2
    go_ret
    exact ⟨rfl, HU2.out⟩
  have d3 : decide (Q ≤ k) = false := by simpa using q3
  by_cases q4 : 2147483648 < Q
  case pos =>
    have d4 : decide (2147483648 < Q) = true := by simpa using q4
    go_wp2
    go_ret
    exact ⟨rfl, HU2.out⟩
  have d4 : decide (2147483648 < Q) = false := by simpa using q4
  go_wp2_with fail
  refine (HPA.out _ ms _ HU2.out (HI2.out.up HU2.out)).mono ?_
  rintro e w3 ⟨rfl, hU3⟩
  have HG3 := hid (HG2.out.up hU3)
  have HU3 := hid (HU2.out.trans hU3)
  clear hU3 HG2 HU2 c0 c1 c2 d2 d3 d4
  obtain ⟨E, hE⟩ : ∃ E, prE P Q G bs ms = E := ⟨_, rfl⟩
  obtain ⟨X, hX⟩ : ∃ X, prV P Q G bs ms = X := ⟨_, rfl⟩
  have HE := hid hE
  have HX := hid hX
  rw [hE, hX]
  clear hE hX
  obtain ⟨c0, c1, c2⟩ := HG3.out
  go_wp2_with fail
  refine (HPA.out _ cs _ HU3.out (HI3.out.up HU3.out)).mono ?_
  rintro e w4 ⟨rfl, hU4⟩
  have HG4 := hid (HG3.out.up hU4)
  have HU4 := hid (HU3.out.trans hU4)
  clear hU4 HG3 HU3 c0 c1 c2
  obtain ⟨F, hF⟩ : ∃ E, prE P Q G bs cs = E := ⟨_, rfl⟩
  obtain ⟨Y, hY⟩ : ∃ X, prV P Q G bs cs = X := ⟨_, rfl⟩
  have HF := hid hF
  have HY := hid hY
  rw [hF, hY]
  clear hF hY
  obtain ⟨c0, c1, c2⟩ := HG4.out
  by_cases hE : E = 0
  case neg =>
    have d5 : (E == 0) = false := by simp [hE]
    have d6 : (E != 0) = true := by simp [hE]
    go_wp2
    go_ret
    exact ⟨rfl, HU4.out⟩
  subst hE
  by_cases hF : F = 0
  case neg =>
    have d5 : (F == 0) = false := by simp [hF]
    have d6 : (F != 0) = true := by simp [hF]
    go_wp2
    go_ret
    exact ⟨rfl, HU4.out⟩
  subst hF
  obtain ⟨_, la, _, hbs, has⟩ := prE_zero.1 HE.out
  obtain ⟨_, lc, _, _, hcs⟩ := prE_zero.1 HF.out
  have Hbs := hid hbs
  have Has := hid has
  have Hcs := hid hcs
  have hX : X = pfold P Q 1 bs ms := by rw [← HX.out, prV, if_pos HE.out]
  have hY : Y = pfold P Q 1 bs cs := by rw [← HY.out, prV, if_pos HF.out]
  have HX := hid hX
  have HY := hid hY
  obtain rfl : n1 = n2 := by rw [← HN1.out, ← HN2.out]; exact la
  obtain rfl : n1 = n3 := by rw [← HN1.out, ← HN3.out]; exact lc
  clear hbs has hcs hX hY la lc HE HF
  go_wp2_with fail
  obtain ⟨Z, hZ⟩ : ∃ Z : Array Value, Array.replicate n1 (.int .i64 0) = Z := ⟨_, rfl⟩
  have HZ := hid hZ
  have hmk : ∀ W, (Instr.makeSlice 36 (.int .i64 (n1 : Int)) (.int .i64 (n1 : Int))).run Tryd.prog W = .ok (.slice (some ⟨W.heap.size, 0, none⟩) n1 n1) (W.alloc (.cells Z 3)) := fun W => by
    rw [← hZ, ← made_zero]
    exact run_make_row' 36 3 (.int .i64 0) 8 Tryd.underlying36 infoInt rfl .i64 .i64 n1 (by omega) (by omega) W
  clear hZ
  obtain ⟨B, hB⟩ : ∃ B, w4.heap.size = B := ⟨_, rfl⟩
  have HB := hid hB
  go_cut [15, 16, 17] from 95 (fun va vb vc w' => ∃ x y z : Nat, va = .slice (some ⟨x, 0, none⟩) n1 n1 ∧ vb = .slice (some ⟨y, 0, none⟩) n1 n1 ∧ vc = .slice (some ⟨z, 0, none⟩) n1 n1 ∧ x ≠ y ∧ x ≠ z ∧ y ≠ z ∧ B ≤ x ∧ B ≤ y ∧ BoxAt w' x 3 Z ∧ BoxAt w' y 3 Z ∧ BoxAt w' z 3 Z ∧ Up w4 w')
  case first =>
    go_region
    all_goals (
      obtain ⟨b1, b2, b3, hU⟩ := three_new (t := 3) (Z := Z) hB
      clear hmk
      go_wp2_with fail
      go_meet
      first
      | exact ⟨B, B + 1, B + 1 + 1, rfl, rfl, rfl, by omega, by omega, by omega, by omega, by omega, b1, b2, b3, hU⟩
      | exact ⟨B, B + 1 + 1, B + 1, rfl, rfl, rfl, by omega, by omega, by omega, by omega, by omega, b1, b3, b2, hU⟩
      | exact ⟨B + 1, B, B + 1 + 1, rfl, rfl, rfl, by omega, by omega, by omega, by omega, by omega, b2, b1, b3, hU⟩
      | exact ⟨B + 1, B + 1 + 1, B, rfl, rfl, rfl, by omega, by omega, by omega, by omega, by omega, b2, b3, b1, hU⟩
      | exact ⟨B + 1 + 1, B, B + 1, rfl, rfl, rfl, by omega, by omega, by omega, by omega, by omega, b3, b1, b2, hU⟩
      | exact ⟨B + 1 + 1, B + 1, B, rfl, rfl, rfl, by omega, by omega, by omega, by omega, by omega, b3, b2, b1, hU⟩)
  case rest =>
    obtain ⟨x, y, z, rfl, rfl, rfl, hxy, hxz, hyz, hBx, hBy, hbx, hby, hbz, hU5⟩ := hcut
    rw [← HZ.out] at hbz
    rw [← HZ.out, ← fillA_zero (fun j => (ms.getD j 0 + cs.getD j 0) % Q)] at hbx
    rw [← HZ.out, ← fillA_zero (fun j => ms.getD j 0 * k % Q)] at hby
    have HBx := hid hbx
    have HBy := hid hby
    have HBz := hid hbz
    have HU5 := hid hU5
    clear hbx hby hbz hU5 hmk c0 c1 c2 HZ
    obtain ⟨f, hf⟩ : ∃ f : Nat → Int, (fun j => (ms.getD j 0 + cs.getD j 0) % Q) = f := ⟨_, rfl⟩
    obtain ⟨h, hh⟩ : ∃ h : Nat → Int, (fun j => ms.getD j 0 * k % Q) = h := ⟨_, rfl⟩
    rw [hf] at HBx
    rw [hh] at HBy
    have HF := hid hf
    have HH := hid hh
    clear hf hh hB
    rename_i w5 _
    go_wp2_with fail
    go_loopw [97] (fun vi wr => ∃ i : Nat, i ≤ n1 ∧ vi = .int .i64 i ∧ Hid (BoxAt wr x 3 (fillA f i n1)) ∧ Hid (BoxAt wr y 3 (fillA h i n1)) ∧ Hid (BoxAt wr z 3 (Array.replicate n1 (.int .i64 0))) ∧ Hid (Up w4 wr)) (fun vi _ => n1 - (intOf vi).toNat)
    case atStart => exact ⟨0, by omega, rfl, HBx, HBy, HBz, HU5⟩
    case round =>
      obtain ⟨i, hin, rfl, HX1, HY1, HZ1, HU⟩ := hrel
      by_cases hl : i < n1
      · have hlZ : (i : Int) < (n1 : Int) := by omega
        have hm2 : i < ms.length := by rw [HN2.out]; exact hl
        have hm3 : i < cs.length := by rw [HN3.out]; exact hl
        have HUw := hid (HU4.out.trans HU.out)
        have HGr := hid (HG4.out.up HU.out)
        obtain ⟨c0, c1, c2⟩ := HGr.out
        obtain ⟨b2, o2, rfl, k2w⟩ := ints_cell HC2.out (Up.refl w) hm2
        obtain ⟨b3, o3, rfl, k3w⟩ := ints_cell HC3.out (Up.refl w) hm3
        have hwB : w.heap.size ≤ B := by rw [← HB.out]; exact HU4.out.size
        have n2 : b2 < B := Nat.lt_of_lt_of_le (cell_lt k2w) hwB
        have n3 : b3 < B := Nat.lt_of_lt_of_le (cell_lt k3w) hwB
        have n0 : o < B := by rw [← HB.out]; exact cell_lt HG4.out.1
        have k2 := cellUp HUw.out k2w
        have k3 := cellUp HUw.out k3w
        clear k2w k3w hwB
        have e2 := Has.out _ (getD_mem hm2)
        have e3 := Hcs.out _ (getD_mem hm3)
        have hf : f i = (ms.getD i 0 + cs.getD i 0) % Q := by rw [← HF.out]
        have hh : h i = ms.getD i 0 * k % Q := by rw [← HH.out]
        have HPf := hid (fillA_put f hl)
        have HPh := hid (fillA_put h hl)
        rw [hf] at HPf
        rw [hh] at HPh
        clear hm2 hm3 hf hh
        generalize ms.getD i 0 = p at *
        generalize cs.getD i 0 = r at *
        have HE2 := hid (fun w' => rExponent_any P Q G p w')
        have HE3 := hid (fun w' => rExponent_any P Q G r w')
        rw [e2] at HE2
        rw [e3] at HE3
        simp [exB] at e2 e3
        have r0 : 0 ≤ p * k := Int.mul_nonneg e2.1 (by omega)
        have r1 : p * k ≤ 4611686018427387904 := by
          have := Int.mul_le_mul (show p ≤ 2147483648 by omega) (show k ≤ 2147483648 by omega) (by omega) (by omega)
          omega
        have f0 := cellF c0
        have f1 := cellF c1
        have f2 := cellF c2
        have f4 := cellF k2
        have f5 := cellF k3
        go_wp2_with fail
        refine wp_region_up (by kernel_rfl) (by kernel_rfl) ?_
        repeat (go_big_quiet_step ((first
          | (go_at_call 45; first | ((with_reducible (show Calls _ _ #[_, .int .i64 p] _ _)); exact Calls.up_of (HE2.out _)) | exact Calls.up_of (HE3.out _)))))
        refine wpQuiet_nil ?_
        rintro _ ⟨pp, rfl⟩
        have hU6 := pp.up
        clear f0 f1 f2 f4 f5
        generalize pp.w' = w6 at *
        have hX6 := HX1.out.up hU6
        have hY6 := HY1.out.up hU6
        have HX6 := hid hX6
        have HY6 := hid hY6
        have HZ6 := hid (HZ1.out.up hU6)
        have HU6 := hid (HU.out.trans hU6)
        have c1 := cellUp hU6 c1
        have k2 := cellUp hU6 k2
        have k3 := cellUp hU6 k3
        have x1 := hX6.val (fillA_get f (i := i) hl)
        have x2 := hX6.thawed i
        have y1 := hY6.val (fillA_get h (i := i) hl)
        have y2 := hY6.thawed i
        rw [if_neg (by omega)] at x1 y1
        clear hU6 hX6 hY6 HX1 HY1 HZ1 HU HUw HGr HE2 HE3
        go_wp2_with fail
        have hQ0 : Q ≠ 0 := by omega
        have far : ∀ (g d : Nat) (u v : Value) (a : Addr), a.block ≠ g → w6.cell? a = some u → (w6.setCell ⟨g, d, none⟩ v).cell? a = some u := fun g d u v a hne hc => by
          rw [World.cell?_of_block (Below.heap_setCell w6 ⟨g, d, none⟩ v a.block hne)]; exact hc
        have farz : ∀ (g d : Nat) (v : Value) (a : Addr), a.block ≠ g → w6.frozen? a = false → (w6.setCell ⟨g, d, none⟩ v).frozen? a = false := fun g d v a hne hc => by
          rw [World.frozen?_of_block (Below.heap_setCell w6 ⟨g, d, none⟩ v a.block hne)]; exact hc
        have sx1 := fun v => far x i _ v _ (show o ≠ x by omega) c1
        have sx2 := fun v => far x i _ v _ (show b2 ≠ x by omega) k2
        have sx3 := fun v => far x i _ v _ (show b3 ≠ x by omega) k3
        have sx4 := fun v => far x i _ v _ (show y ≠ x by omega) y1
        have sx5 := fun v => farz x i v _ (show y ≠ x by omega) y2
        have sy1 := fun v => far y i _ v _ (show o ≠ y by omega) c1
        have sy2 := fun v => far y i _ v _ (show b2 ≠ y by omega) k2
        have sy3 := fun v => far y i _ v _ (show b3 ≠ y by omega) k3
        have sy4 := fun v => far y i _ v _ (show x ≠ y by omega) x1
        have sy5 := fun v => farz y i v _ (show x ≠ y by omega) x2
        clear far farz
        have bX := ((HX6.out.wrote i (.int .i64 ((p + r) % Q))).apart (a := ⟨y, i, none⟩) (show x ≠ y by omega) (.int .i64 (p * k % Q))).up (Up.refl _).drew
        have bY := ((HY6.out.apart (a := ⟨x, i, none⟩) (show y ≠ x by omega) (.int .i64 ((p + r) % Q))).wrote i (.int .i64 (p * k % Q))).up (Up.refl _).drew
        have bZ := ((HZ6.out.apart (a := ⟨x, i, none⟩) (show z ≠ x by omega) (.int .i64 ((p + r) % Q))).apart (a := ⟨y, i, none⟩) (show z ≠ y by omega) (.int .i64 (p * k % Q))).up (Up.refl _).drew
        have bU := ((HU6.out.setCell (a := ⟨x, i, none⟩) (by rw [HB.out]; exact hBx) (.int .i64 ((p + r) % Q))).setCell (a := ⟨y, i, none⟩) (by rw [HB.out]; exact hBy) (.int .i64 (p * k % Q))).drew
        rw [HPf.out] at bX
        rw [HPh.out] at bY
        have BX := hid bX
        have BY := hid bY
        have BZ := hid bZ
        have BU := hid bU
        clear bX bY bZ bU
        go_region
        clear sx1 sx2 sx3 sx4 sx5 sy1 sy2 sy3 sy4 sy5 x1 x2 y1 y2 c0 c1 c2 k2 k3
        go_wp2_with fail
        go_roundw
        case rel => exact ⟨i + 1, by omega, by go_num, BX, BY, BZ, BU⟩
        case measure => simp [intOf]; omega
      · obtain rfl : i = n1 := by omega
        have HU6 := hid (HU4.out.trans HU.out)
        have HG6 := hid (HG4.out.up HU.out)
        have hx := fillA_ints l1 HX1.out
        have hy := fillA_ints l1 HY1.out
        have hz := HZ1.out
        rw [← fillA_none i i] at hz
        have HIz := hid (fillA_ints l1 hz)
        rw [← HF.out] at hx
        rw [← HH.out] at hy
        have HIx := hid hx
        have HIy := hid hy
        obtain ⟨s1, s2⟩ := adds_sum Hg.out HN1.out HN2.out HN3.out (show i ≤ 100 by omega) Hbs.out
        obtain ⟨t1, t2⟩ := adds_times k Hg.out HN1.out HN2.out (show i ≤ 100 by omega) Hbs.out
        obtain ⟨u1, u2⟩ := adds_none Hg.out HN1.out (show i ≤ 100 by omega) Hbs.out
        rw [← HX.out, ← HY.out] at s2
        rw [← HX.out] at t2
        have HXe : Hid (elB P Q X = true) := hid (by rw [HX.out]; exact pfold_el (by omega) (by omega) bs ms 1 (el_of_one (by omega)) Hbs.out)
        have HYe : Hid (elB P Q Y = true) := hid (by rw [HY.out]; exact pfold_el (by omega) (by omega) bs cs 1 (el_of_one (by omega)) Hbs.out)
        have C1 := fun w' (hU : Up w w') (hI : Up wr w') => HPA.out _ _ w' hU (HIx.out.up hI)
        have C2 := fun w' (hU : Up w w') (hI : Up wr w') => HPA.out _ _ w' hU (HIy.out.up hI)
        have C3 := fun w' (hU : Up w w') (hI : Up wr w') => HPA.out _ _ w' hU (HIz.out.up hI)
        rw [s1, s2] at C1
        rw [t1, t2] at C2
        rw [u1, u2] at C3
        have HC1 := hid C1
        have HC2 := hid C2
        have HC3 := hid C3
        clear C1 C2 C3 s1 s2 t1 t2 u1 u2 hx hy hz HX HY
        obtain ⟨c0, c1, c2⟩ := HG6.out
        go_wp2_with fail
        refine (HC1.out _ HU6.out (Up.refl _)).mono ?_
        rintro e w7 ⟨rfl, hU7⟩
        have HW7 := hid hU7
        have HU7 := hid (HU6.out.trans hU7)
        have HG7 := hid (HG6.out.up hU7)
        clear hU7 c0 c1 c2
        obtain ⟨c0, c1, c2⟩ := HG7.out
        go_wp2_with fail
        refine (HC2.out _ HU7.out HW7.out).mono ?_
        rintro e w8 ⟨rfl, hU8⟩
        have HW8 := hid (HW7.out.trans hU8)
        have HU8 := hid (HU7.out.trans hU8)
        have HG8 := hid (HG7.out.up hU8)
        clear hU8 c0 c1 c2
        obtain ⟨c0, c1, c2⟩ := HG8.out
        go_wp2_with fail
        refine (HC3.out _ HU8.out HW8.out).mono ?_
        rintro e w9 ⟨rfl, hU9⟩
        have HU9 := hid (HU8.out.trans hU9)
        have HG9 := hid (HG8.out.up hU9)
        clear hU9 c0 c1 c2
        obtain ⟨c0, c1, c2⟩ := HG9.out
        go_wp2_with fail
        refine (gMul_ok P Q G X Y _ hQ (HT.out.up HU9.out) Hg.out HXe.out HYe.out).mono ?_
        rintro e w10 ⟨rfl, hU10⟩
        have HU10 := hid (HU9.out.trans hU10)
        have HG10 := hid (HG9.out.up hU10)
        clear hU10 c0 c1 c2
        obtain ⟨c0, c1, c2⟩ := HG10.out
        generalize X * Y % P = XY
        go_wp2_with fail
        refine (gPower_ok P Q G X k _ hQ (HT.out.up HU10.out) Hg.out HXe.out (by omega) (by omega)).mono ?_
        rintro e w11 ⟨rfl, hU11⟩
        have HU11 := hid (HU10.out.trans hU11)
        clear hU11 c0 c1 c2
        generalize gpw P Q X k = XK
        go_wp2
        go_ret
        exact ⟨rfl, HU11.out⟩
end Go.Proofs.YtldodbffdegmiaaDoor
