/- Commitments: what is given, Commit, Open, Add, Scale, Shift. Commitments: Commit, Open, Add, Scale, Shift; the reference. Slices of integers that the call itself makes. Plain facts on sorted lists of integers. -/
import Derived.Test.YtdlcmpbpdbpanaaDoorMB13
import Derived.Test.YtdlcmpbpdbpanaaDoorMB12
import Derived.Test.YtdlcmpbpdbpanaaDoorMB10
import Derived.Sort.OwnSortedInts
namespace Go.Proofs.YtdlcmpbpdbpanaaDoor
open Go.RowKit Go.Sp
set_option maxHeartbeats 2000000
set_option maxRecDepth 20000

/-- The error of bases, scalars, and elements. -/
def givE (P Q G A B C : Int) (ss es : List Int) : Int :=
  if bvB P Q G A B C = true then (if ss.all (exB Q) = true ∧ es.all (elB P Q) = true then 0 else 2) else 1

theorem all_of {p : Int → Bool} {xs : List Int} (h : ∀ j, j < xs.length → p (xs.getD j 0) = true) : xs.all p = true := by
  rw [List.all_eq_true]
  intro x hx
  obtain ⟨j, hj, rfl⟩ := List.getElem_of_mem hx
  have := h j hj
  simpa [hj] using this

/-- The commitment to m with r. -/
def comV (P Q G C m r : Int) : Int := gpw P Q G m * gpw P Q C r % P

theorem com_prV {P Q G A B C m r : Int} (hb : bvB P Q G A B C = true) (hm : exB Q m = true) (hr : exB Q r = true) : prE P Q G [G, C] [m, r] = 0 ∧ prV P Q G [G, C] [m, r] = comV P Q G C m r := by
  obtain ⟨hg, _, _, _, hc⟩ := bv_iff.1 hb
  have g := gv_iff.1 hg
  have g2 := g.P4
  have g5 := g.G2
  have hG : elB P Q G = true := el_iff.2 ⟨by omega, g.GP, g.GQ⟩
  have h0 : prE P Q G [G, C] [m, r] = 0 := prE_zero.2 ⟨hg, rfl, by simp, by simp [hG, hc], by simp [hm, hr]⟩
  refine ⟨h0, ?_⟩
  rw [prV, if_pos h0]
  show (1 * gpw P Q G m % P) * gpw P Q C r % P = _
  rw [Int.one_mul, show gpw P Q G m % P = gpw P Q G m from Int.emod_eq_of_lt (gpw_nonneg (by omega)).1 (gpw_nonneg (by omega)).2]
  rfl

theorem com_el {P Q G A B C m r : Int} (hb : bvB P Q G A B C = true) : elB P Q (comV P Q G C m r) = true := by
  obtain ⟨hg, _, _, _, hc⟩ := bv_iff.1 hb
  have g := gv_iff.1 hg
  have g2 := g.P4
  have g3 := g.Q3
  have g5 := g.G2
  have hG : elB P Q G = true := el_iff.2 ⟨by omega, g.GP, g.GQ⟩
  exact el_mul (by omega) (by omega) (gpw_el (by omega) (by omega) hG m) (gpw_el (by omega) (by omega) hc r)

end Go.Proofs.YtdlcmpbpdbpanaaDoor
namespace Go.Proofs.YtdlcmpbpdbpanaaDoor
open Go.RowKit Go.Sp
set_option maxHeartbeats 2000000
set_option maxRecDepth 20000

theorem giv_zero {P Q G A B C : Int} {ss es : List Int} : givE P Q G A B C ss es = 0 ↔ bvB P Q G A B C = true ∧ (∀ x ∈ ss, exB Q x = true) ∧ ∀ x ∈ es, elB P Q x = true := by
  unfold givE
  by_cases h : bvB P Q G A B C = true
  · rw [if_pos h]
    by_cases h3 : ss.all (exB Q) = true ∧ es.all (elB P Q) = true
    · rw [if_pos h3]
      exact ⟨fun _ => ⟨h, List.all_eq_true.1 h3.1, List.all_eq_true.1 h3.2⟩, fun _ => rfl⟩
    · rw [if_neg h3]
      constructor
      · intro h; omega
      · rintro ⟨_, h4, h5⟩
        exact absurd ⟨List.all_eq_true.2 h4, List.all_eq_true.2 h5⟩ h3
  · rw [if_neg h]
    constructor
    · intro h; omega
    · rintro ⟨h1, _⟩
      exact absurd h1 h

theorem ints_none (w : World) : IntsAt w (.slice none 0 0) [] := ⟨by simp, none, 0, rfl, fun h => absurd rfl h⟩

/-- A commitment, or 0. -/
def comR (P Q G A B C m r : Int) : Int := if givE P Q G A B C [m, r] [] = 0 then comV P Q G C m r else 0

end Go.Proofs.YtdlcmpbpdbpanaaDoor
namespace Go.Proofs.YtdlcmpbpdbpanaaDoor
open Go.RowKit Go.Sp Go.Sort
set_option maxHeartbeats 400000

theorem infoInt : (Tryd.prog.info? 3).map (fun i => (i.zero, i.size, i.bytes)) = some (some (.int .i64 0), 1, 8) := by kernel_rfl

/-- The slice v is the call's own, and holds just these integers. -/
def OwnI (w : World) (base : Nat) (v : Value) (xs : List Int) : Prop := w.ownsRow base 3 1 v xs.length (xs.map (Value.int .i64))

theorem OwnI.ints {w : World} {base : Nat} {v : Value} {xs : List Int} (h : OwnI w base v xs) : IntsAt w v xs := by
  rcases h.2 with ⟨hv, hn⟩ | ⟨g, cap, cur, rfl, hb, hg, hn, hm, hs, ht⟩
  · exact ⟨by omega, none, 0, by rw [hv, hn], fun hne => absurd (List.length_eq_zero_iff.1 hn) hne⟩
  · refine ⟨by unfold maxLen at hm; omega, _, cap, rfl, fun _ => ⟨g, 0, rfl, fun i hi => ?_⟩⟩
    rw [Nat.zero_add, World.ownsRow.cellAt h i (by omega)]
    simp [hi]

theorem OwnI.grown {w w' : World} {base : Nat} {v : Value} {xs : List Int} {row : Option Nat} (h : OwnI w base v xs) (hg : w.grownBy w' row) (hne : v.ownBlock = none ∨ v.ownBlock ≠ row) : OwnI w' base v xs :=
  World.ownsRow.kept h hg hne

theorem ownsRow_up {w w' : World} {base e size n : Nat} {v : Value} {xs : List Value} (h : w.ownsRow base e size v n xs) (hU : Up w w') : w'.ownsRow base e size v n xs := by
  refine ⟨h.1, ?_⟩
  rcases h.2 with hn | ⟨g, cap, cur, rfl, hb, hgg, rest⟩
  · exact .inl hn
  · refine .inr ⟨g, cap, cur, rfl, hb, ?_, rest⟩
    rw [hU.block (Array.getElem?_eq_some_iff.1 hgg).1]
    exact hgg

theorem OwnI.up {w w' : World} {base : Nat} {v : Value} {xs : List Int} (h : OwnI w base v xs) (hU : Up w w') : OwnI w' base v xs := ownsRow_up h hU

theorem OwnI.mono {w : World} {base base' : Nat} {v : Value} {xs : List Int} (h : OwnI w base v xs) (hb : base' ≤ base) : OwnI w base' v xs := by
  refine ⟨h.1, ?_⟩
  rcases h.2 with hn | ⟨g, cap, cur, rfl, hb2, rest⟩
  · exact .inl hn
  · exact .inr ⟨g, cap, cur, rfl, by omega, rest⟩

theorem up_grown {w w' w'' : World} {row : Option Nat} (h : Up w w') (hg : w'.grownBy w'' row) (hr : ∀ k, row = some k → w.heap.size ≤ k) : Up w w'' := Below.grown h hg h.size hr

/-- The numbers in order. -/
def isort (xs : List Int) : List Int := xs.mergeSort fun x y => decide (x ≤ y)

theorem isort_length (xs : List Int) : (isort xs).length = xs.length := List.length_mergeSort xs

theorem sort_own {w : World} {base : Nat} {v : Value} {xs : List Int} (h : OwnI w base v xs) (hz : xs.length < 4611686018427387904) :
    Calls Tryd.prog 97 #[v] w fun e w' => e = .returned (.tuple #[]) ∧ OwnI w' base v (isort xs) ∧ w.grownBy w' v.ownBlock := by
  rcases h.2 with ⟨hv, hn⟩ | ⟨g, cap, cur, rfl, hb, hg, hn, hm, hs, ht⟩
  · subst hv
    have hx : xs = [] := List.length_eq_zero_iff.1 hn
    subst hx
    refine (Tryd.slices_Sort_int_none none 0 w).mono ?_
    rintro e w' ⟨he, rfl⟩
    exact ⟨he, by rw [show isort [] = [] by simp [isort]]; exact h, World.grownBy.refl _ _⟩
  · have hH := holds_of_blockI hg (by simpa using ht)
    have hlt : g < w.heap.size := (Array.getElem?_eq_some_iff.1 hg).1
    refine (Tryd.slices_Sort_int g 0 cap xs w hH hlt hz).mono ?_
    rintro e w' ⟨he, n, os, rfl⟩
    refine ⟨he, ?_, grownBy_sortedI _⟩
    have hl := isort_length xs
    unfold OwnI
    rw [hl]
    exact ownsRow_sortedI hl hb hg hn hm hs

/-- The cells of a list that is filled from the left. -/
def filled (f : Nat → Int) (n i : Nat) : List Value := (List.range n).map fun j => Value.int .i64 (if j < i then f j else 0)

theorem filled_set (f : Nat → Int) (n i : Nat) : (filled f n i).set i (.int .i64 (f i)) = filled f n (i + 1) := by
  apply List.ext_getElem
  · simp [filled]
  · intro j h1 h2
    simp only [filled, List.getElem_set, List.getElem_map, List.getElem_range]
    split
    · rename_i h; subst h; simp
    · rename_i h
      have : (j < i + 1) = (j < i) := by simp; omega
      simp [this]

theorem filled_zero (f : Nat → Int) (n : Nat) : (madeCells #[Value.int .i64 0] n).toList = filled f n 0 := by
  apply List.ext_getElem
  · simp [filled, madeCells]
  · intro j h1 h2
    simp [filled, madeCells, Nat.mod_one]

theorem filled_all (f : Nat → Int) (n : Nat) : filled f n n = ((List.range n).map f).map (Value.int .i64) := by
  apply List.ext_getElem
  · simp [filled]
  · intro j h1 h2
    simp [filled] at h1 ⊢
    intro h; omega

/-- The powers of G, from that by 0 on. -/
def powList (P G : Int) (n : Nat) : List Int := (List.range n).map fun i => pw G i P

def ElemOut (P Q G : Int) (w : World) (e : Ending) (w' : World) : Prop :=
  ∃ v, e = .returned (.tuple #[v, .int .i64 0]) ∧ OwnI w' w.heap.size v (isort (powList P G Q.toNat)) ∧ Up w w'

set_option maxRecDepth 20000 in
theorem Elements_ok (P Q G : Int) (w : World) (hT : Tab w) (hg : gvB P Q G = true) (hQ : Q ≤ 1000) :
    Calls Tryd.prog 39 #[grp P Q G] w (ElemOut P Q G w) := by
  have HT := hid hT
  clear hT
  have g := gv_iff.1 hg
  have g1 := g.P61
  have g2 := g.P4
  have g3 := g.Q3
  have g4 := g.G2
  have g5 := g.GP
  clear g
  obtain ⟨i0, hi, hz0, hz1, hz2⟩ := info_parts infoInt
  obtain ⟨n, rfl⟩ := Int.eq_ofNat_of_zero_le (show 0 ≤ Q by omega)
  have hq : decide (1000 < n) = false := by simp; omega
  go_enter Tryd.func39, Tryd.ntmps39
  go_wp2_with fail
  refine (Valid_any P n G _ (by omega) (by omega) (HT.out.up ((Up.refl w).alloc _))).mono ?_
  rintro e w1 ⟨rfl, hU1⟩
  obtain ⟨hr1, hf1⟩ := hU1.reads
  have hs1 : w.heap.size < w1.heap.size := by have := hU1.size; simp at this; omega
  have hb0 : w1.cell? ⟨w.heap.size, 0, none⟩ = some (.int .i64 P) := by rw [hr1 _ _ (by simp)]; go_simp
  have hb1 : w1.cell? ⟨w.heap.size, 1, none⟩ = some (.int .i64 n) := by rw [hr1 _ _ (by simp)]; go_simp
  have hb2 : w1.cell? ⟨w.heap.size, 2, none⟩ = some (.int .i64 G) := by rw [hr1 _ _ (by simp)]; go_simp
  have HG : Hid (GrpAt w1 w.heap.size P n G) := hid ⟨hb0, hb1, hb2⟩
  have HU := hid (((Up.refl w).alloc _).trans hU1)
  clear hr1 hf1 hU1
  go_wp2_with (at_make; refine wpList_make_full _ rfl _ _ 44 rfl w1.heap.size 3 i0 (.int .i64 0) 1 Tryd.underlying44 hi hz0 hz1 _ _ _ _ n rfl rfl rfl rfl ?c1 ?c2 ?c3 ?_)
  case c1 => rw [hz2]; omega
  case c2 => unfold maxLen; omega
  case c3 => exact Nat.le_refl _
  intro w2 hown hgr
  rw [filled_zero (fun i => pw G i P) n] at hown
  have HU2 := hid (up_grown HU.out hgr (fun k hk => by cases hk))
  have HG2 := hid (HG.out.up (Below.grown (Below.refl w1.heap.size w1) hgr (Nat.le_refl _) (fun k hk => by cases hk)))
  have HO := hid hown
  have hs2 : w1.heap.size ≤ w2.heap.size := hgr.size
  obtain ⟨b, hbe⟩ : ∃ b, w.heap.size = b := ⟨_, rfl⟩
  obtain ⟨g, hge⟩ : ∃ g, w1.heap.size = g := ⟨_, rfl⟩
  have HB := hid hbe
  have HGE := hid hge
  rw [hge] at HO
  rw [hbe] at HG2
  rw [hbe, hge] at hs1
  rw [hbe, hge]
  clear hown hgr hb0 hb1 hb2 HG HU hs2 hbe hge
  go_wp2_with fail
  go_loopw [5, 20] (fun vx vi wr => ∃ i : Nat, i ≤ n ∧ vx = .int .i64 (pw G i P) ∧ vi = .int .i64 i ∧ wr.ownsRow g 3 1 (.slice (some ⟨g, 0, none⟩) n n) n (filled (fun i => pw G i P) n i) ∧ Up w wr ∧ GrpAt wr b P n G) (fun _ vi _ => n - (intOf vi).toNat)
  case atStart => exact ⟨0, by omega, by rw [pw_zero, Int.emod_eq_of_lt (by omega) (by omega)], rfl, HO.out, HU2.out, HG2.out⟩
  case round =>
    obtain ⟨i, hi2, rfl, rfl, hown, hU, hG⟩ := hrel
    have p0 := pw_nonneg G i (show 0 < P by omega)
    have p1 := pw_lt G i (show 0 < P by omega)
    by_cases hl : i < n
    · have hc := hown.cellAt i (by omega)
      have hf := hown.frozenAt i
      rw [show (filled (fun i => pw G i P) n i)[i]? = some (.int .i64 0) by simp [filled, hl]] at hc
      obtain ⟨hs1', hs2'⟩ := hown.stored i (.int .i64 (pw G i P))
      rw [filled_set] at hs1'
      have hUs : Up w (wr.setCell ⟨g, i, none⟩ (.int .i64 (pw G i P))) := hU.setCell (by show w.heap.size ≤ g; rw [HB.out]; omega) _
      have hGs : GrpAt (wr.setCell ⟨g, i, none⟩ (.int .i64 (pw G i P))) b P n G := by
        obtain ⟨q0, q1, q2⟩ := hG
        have hk : (wr.setCell ⟨g, i, none⟩ (.int .i64 (pw G i P))).heap[b]? = wr.heap[b]? := Below.heap_setCell _ _ _ _ (by show b ≠ g; omega)
        exact ⟨by rw [World.cell?_of_block (w := wr) hk]; exact q0, by rw [World.cell?_of_block (w := wr) hk]; exact q1, by rw [World.cell?_of_block (w := wr) hk]; exact q2⟩
      obtain ⟨Ws, hWs⟩ : ∃ Ws, wr.setCell ⟨g, i, none⟩ (.int .i64 (pw G i P)) = Ws := ⟨_, rfl⟩
      rw [hWs] at hs1' hUs hGs
      obtain ⟨q0, q1, q2⟩ := hGs
      have HGs : Hid (GrpAt Ws b P n G) := hid ⟨q0, q1, q2⟩
      have HOs := hid hs1'
      have HXs : Hid (pw G i P * G % P = pw G (i + 1) P) := hid (by
        have h1 : pw G 1 P = G := by rw [pw, show G ^ 1 = G by rw [Int.pow_succ]; simp, Int.emod_eq_of_lt (by omega) g5]
        rw [pw_add, h1])
      clear hs1' hs2' hown hG
      generalize hpx : pw G i P = x at *
      clear hpx
      go_wp2_with fail
      refine (Mul_ok x G P _ p0 p1 (by omega) g5 g1).mono ?_
      rintro e w3 ⟨rfl, hU3⟩
      rw [HXs.out]
      go_wp2_with fail
      go_roundw
      case rel => exact ⟨i + 1, by omega, rfl, by go_num, ownsRow_up HOs.out hU3, hUs.trans hU3, HGs.out.up hU3⟩
      case measure => simp [intOf]; omega
    · have hin : i = n := by omega
      have HO2 : Hid (OwnI wr g (.slice (some ⟨g, 0, none⟩) n n) (powList P G n)) := hid (by
        have h1 := hown
        rw [hin, filled_all] at h1
        unfold OwnI powList
        simpa using h1)
      have hl2 : decide (i < n) = false := by simpa using hl
      clear hown hG hin
      have hlen : (powList P G n).length = n := by simp [powList]
      go_wp2_with fail
      refine (sort_own HO2.out (by omega)).mono ?_
      rintro e w3 ⟨rfl, hO3, hg3⟩
      go_wp2
      go_ret2
      refine ⟨_, rfl, ?_, ?_⟩
      · rw [Int.toNat_natCast]
        exact hO3.mono (by rw [HB.out]; omega)
      · exact up_grown hU hg3 (fun k hk => by
          simp [Value.ownBlock] at hk
          rw [HB.out]; omega)
end Go.Proofs.YtdlcmpbpdbpanaaDoor
namespace Go.Proofs.YtdlcmpbpdbpanaaDoor
open Go.Sp

theorem isort_perm (xs : List Int) : (isort xs).Perm xs := List.mergeSort_perm _ _

theorem isort_sorted (xs : List Int) : (isort xs).Pairwise (· ≤ ·) :=
  (List.pairwise_mergeSort (le := fun x y : Int => decide (x ≤ y)) (fun _ _ _ h1 h2 => by simp at *; omega) (fun _ _ => by simp; omega) xs).imp (fun h => by simpa using h)

theorem sorted_eq {xs ys : List Int} (h1 : xs.Pairwise (· ≤ ·)) (h2 : ys.Pairwise (· ≤ ·)) (h : xs.Perm ys) : xs = ys :=
  List.Perm.eq_of_pairwise (fun _ _ _ _ h3 h4 => Int.le_antisymm h3 h4) h1 h2 h

theorem isort_eq {xs ys : List Int} (h2 : ys.Pairwise (· ≤ ·)) (h : xs.Perm ys) : isort xs = ys :=
  sorted_eq (isort_sorted xs) h2 ((isort_perm xs).trans h)

theorem isort_small : isort (powList 23 4 (11 : Int).toNat) = [1, 2, 3, 4, 6, 8, 9, 12, 13, 16, 18] :=
  isort_eq (by decide) (by decide +kernel)
end Go.Proofs.YtdlcmpbpdbpanaaDoor
