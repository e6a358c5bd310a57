/- Plain facts on sorted lists of integers. From a walk that returns true and leaves all that was there as it was, to a law's post; arguments opened. Boxes of groups; short slices. -/
import Derived.Test.YtdlcmpbpdbpanaaDoorMSignatureFits5
import Derived.Test.YtdlcmpbpdbpanaaDoorCards
import Derived.Test.YtdlcmpbpdbpanaaDoorTie
import Derived.ProofKit
import Derived.OpenShut
import Derived.Carry
import Derived.Deep.DeepHandedRow
import Derived.Lib.LaidTab
import Derived.Lib.SmallJoins
import Derived.Stop.LaidErr
namespace Go.Proofs.YtdlcmpbpdbpanaaDoor
open Go.Sp

theorem isort_perm (xs : List Int) : (isort xs).Perm xs := List.mergeSort_perm _ _

theorem isort_sorted (xs : List Int) : (isort xs).Pairwise (· ≤ ·) :=
  (List.pairwise_mergeSort (le := fun x y : Int => decide (x ≤ y)) (fun _ _ _ h1 h2 => by simp at *; omega) (fun _ _ => by simp; omega) xs).imp (fun h => by simpa using h)

theorem sorted_eq {xs ys : List Int} (h1 : xs.Pairwise (· ≤ ·)) (h2 : ys.Pairwise (· ≤ ·)) (h : xs.Perm ys) : xs = ys :=
  List.Perm.eq_of_pairwise (fun _ _ _ _ h3 h4 => Int.le_antisymm h3 h4) h1 h2 h

theorem isort_eq {xs ys : List Int} (h2 : ys.Pairwise (· ≤ ·)) (h : xs.Perm ys) : isort xs = ys :=
  sorted_eq (isort_sorted xs) h2 ((isort_perm xs).trans h)

theorem isort_small : isort (powList 23 4 (11 : Int).toNat) = [1, 2, 3, 4, 6, 8, 9, 12, 13, 16, 18] :=
  isort_eq (by decide) (by decide +kernel)
end Go.Proofs.YtdlcmpbpdbpanaaDoor
namespace Go.Proofs.YtdlcmpbpdbpanaaDoor
open Go.ChangeShapes Go.WideShapes Go.ChangeAt Go.RowKit Go.Sp Go.Joins

section
variable {H : Type} {enc : TypeId × Value → H} {P : Program}

theorem trodAll_later (hl : laidOutB P = true) {W W' : World} (hb : Below W.heap.size W W') : ∀ {ts : List TypeId} {vs : List Value} {ds : List (DataW H)} {ps : List MemPlace},
    ts.all (fun t => P.readableRec t && decide (t < P.types.size)) = true → (∀ x ∈ ps, x.block < W.heap.size) → DataW.TrodAll enc P W 0 (fun _ => true) true ts vs ds ps →
    DataW.TrodAll enc P W' 0 (fun b => decide (b < W.heap.size)) true ts vs ds ps
  | [], _, _, _, _, _, h => by
    obtain ⟨rfl, rfl, rfl⟩ := trodAll_nil h
    exact trodAll_mk0
  | t :: ts, _, _, _, hr, hlt, h => by
    obtain ⟨v, vs, d, ds, p, q, rfl, rfl, rfl, h1, h2⟩ := trodAll_cons h
    simp only [List.all_cons, Bool.and_eq_true, decide_eq_true_eq] at hr
    exact trodAll_cons_mk (Below.trod hl hr.1.1 hr.1.2 h1 hb (fun x hx => hlt x (List.mem_append_left _ hx)))
      (trodAll_later hl hb hr.2 (fun x hx => hlt x (List.mem_append_right _ hx)) h2)

/-- A law's post: true came back; nothing that was there has turned. -/
theorem law_shut {f : Func} {s : ChangeSpec} {T : TypeId} {W W' : World} {args : Array Value} {ds gs : List (DataW H)} {before : List MemPlace} (hb : P.underlying T = some .bool) (hr : f.resultTypes = #[T]) (hv : s.vars = [])
    (hs : s.fn H (ds ++ gs) = { results := [.lit (.bool true)], args := ds }) (hl : laidOutB P = true) (hpar : f.params.toList.all (fun t => P.readableRec t && decide (t < P.types.size)) = true)
    (hW : DataW.Whole enc P f.params.toList s.vars false W args.toList ds gs before) (hU : Below W.heap.size W W') : s.post enc P f false true false false W args (.bool true) W' := by
  have hlt := hW.lt
  have hW2 := hW
  obtain ⟨p, q, hA, hV, rfl, -, -⟩ := hW2
  rw [hv] at hV
  obtain ⟨rfl, rfl⟩ := trodVars_none hV
  rw [List.append_nil] at hlt
  refine ⟨ds, [], p ++ [], [], p, [], hW, ?_, ?_, ?_, Below.frame hU _, fun h => by cases h⟩
  · rw [hs, hr]
    exact trodAll_mk1 (shut_bool hb true)
  · rw [hs]
    exact trodAll_later hl hU hpar hlt hA
  · rw [hs, hv]
    rfl
end

theorem own : ownKnob Tryd.prog.godebug = none := by kernel_rfl
theorem laidOut : laidOutB Tryd.prog = true := by kernel_rfl
theorem gBases : Tryd.prog.globalNamed "specie/prime.bases" = some 2 := by kernel_rfl
theorem gBasesType : (Tryd.prog.globals[2]?).map (·.type) = some 203 := by kernel_rfl
theorem gTab : Tryd.prog.globalNamed "math/bits.deBruijn64tab" = some 3 := by kernel_rfl
theorem gTabType : (Tryd.prog.globals[3]?).map (·.type) = some 224 := by kernel_rfl
theorem cellsBases : Tryd.prog.cellsOf 203 = 12 := by kernel_rfl
theorem cellsTab : Tryd.prog.cellsOf 224 = 64 := by kernel_rfl
theorem cellsU64 : Tryd.prog.cellsOf 34 = 1 := by kernel_rfl
theorem cellsU8 : Tryd.prog.cellsOf 5 = 1 := by kernel_rfl
theorem cellsInt : Tryd.prog.cellsOf 3 = 1 := by kernel_rfl
theorem cellsGroup : Tryd.prog.cellsOf 52 = 3 := by kernel_rfl

/-- What each row lists. -/
abbrev laidTwo : List (String × DataW Unit) := [("math/bits.deBruijn64tab", Rows.laid_math_bits_deBruijn64tab), ("specie/prime.bases", Rows.laid_specie_prime_bases)]

theorem laid_tail {P : Program} {x : String × DataW Unit} {l : List (String × DataW Unit)} {w : World} (h : laidMet P (x :: l) w) : laidMet P l w := laidMet.tail h

theorem tab_of_laid {W : World} (h : laidMetH Tryd.prog laidTwo W) : Tab W := by
  have h0 : laidMet Tryd.prog laidTwo W := h
  have t1 : Lib.TabIs Tryd.prog W "math/bits.deBruijn64tab" .u8 (Lib.deBruijn64tab.map fun n : Nat => (n : Int)) :=
    Lib.tabIs_of_head (rest := [("specie/prime.bases", Rows.laid_specie_prime_bases)]) gTab gTabType Tryd.underlying224 Tryd.underlying5 cellsU8 cellsTab h0
  have t2 : Lib.TabIs Tryd.prog W "specie/prime.bases" .u64 baseList :=
    Lib.tabIs_of_head (rest := []) gBases gBasesType Tryd.underlying203 Tryd.underlying34 cellsU64 cellsBases (laid_tail h0)
  refine ⟨?_, fun i hi => ?_⟩
  · unfold Lib.TabIs World.var? at t2
    rw [gBases] at t2
    simp only [Option.bind_some] at t2
    split at t2
    · rename_i cs t fr hh
      simp only [Option.some.injEq] at t2
      exact ⟨t, fr, by rw [hh, t2]; rfl⟩
    · cases t2
  · have := t1.cell gTab i (by simpa [Lib.deBruijn64tab] using hi)
    rw [this]
    simp [List.getD_eq_getElem?_getD]
    cases h : Lib.deBruijn64tab[i]? <;> simp

set_option maxRecDepth 100000 in
/-- A group among the arguments: three numbers in their range. -/
theorem open_grp {H : Type} {enc : TypeId × Value → H} {r : Reach} {b0 base : Nat} {spare : Nat → Bool} {held : Bool} {w : World} {v : Value} {d : DataW H} {p : List MemPlace}
    (hv : Value.okWide Tryd.prog w r b0 52 v) (h : DataW.Trod enc Tryd.prog w base spare held 52 v d p) :
    ∃ P Q G : Int, v = grp P Q G ∧ (-9223372036854775808 ≤ P ∧ P ≤ 9223372036854775807) ∧ (-9223372036854775808 ≤ Q ∧ Q ≤ 9223372036854775807) ∧ (-9223372036854775808 ≤ G ∧ G ≤ 9223372036854775807) := by
  obtain ⟨c0, c1, c2, y0, y1, y2, m, rfl, rfl, rfl, hy0, hy1, hy2⟩ := open_agg3 Tryd.underlying52 (by kernel_rfl) cellsGroup hv h
  obtain ⟨a, e0, rfl, wa⟩ := DataW.trod_int Tryd.underlying3 hy0
  obtain ⟨b, e1, rfl, wb⟩ := DataW.trod_int Tryd.underlying3 hy1
  obtain ⟨c, e2, rfl, wc⟩ := DataW.trod_int Tryd.underlying3 hy2
  simp at e0 e1 e2
  subst e0 e1 e2
  exact ⟨a, b, c, rfl, bounds_i64 wa, bounds_i64 wb, bounds_i64 wc⟩

set_option maxRecDepth 100000 in
/-- An int among the arguments. -/
theorem open_i64 {H : Type} {enc : TypeId × Value → H} {r : Reach} {b0 base : Nat} {spare : Nat → Bool} {held : Bool} {w : World} {v : Value} {d : DataW H} {p : List MemPlace}
    (hv : Value.okWide Tryd.prog w r b0 3 v) (h : DataW.Trod enc Tryd.prog w base spare held 3 v d p) :
    ∃ x : Int, v = .int .i64 x ∧ -9223372036854775808 ≤ x ∧ x ≤ 9223372036854775807 := by
  obtain ⟨x, rfl, rfl, rfl, wx⟩ := open_int Tryd.underlying3 hv h
  exact ⟨x, rfl, (bounds_i64 wx).1, (bounds_i64 wx).2⟩
end Go.Proofs.YtdlcmpbpdbpanaaDoor
namespace Go.Proofs.YtdlcmpbpdbpanaaDoor
open Go.RowKit Go.Sp
set_option maxHeartbeats 1000000

theorem alloc_at (w : World) (o : Obj) (b : Nat) (h : b = w.heap.size) : (w.alloc o).heap[b]? = some o := by
  subst h
  show (w.heap.push o)[w.heap.size]? = some o
  simp

theorem chk_cases {P Q G : Int} {xs : List Int} (h : chkI P Q G xs = 0) : gvB P Q G = true ∧ ∀ x ∈ xs, elB P Q x = true := by
  unfold chkI at h
  split at h
  · split at h
    · rename_i h1 h2; exact ⟨h1, fun x hx => List.all_eq_true.1 h2 x hx⟩
    · cases h
  · cases h

theorem ints_three {w : World} {b cap : Nat} {x y z : Int} (h : w.cell? ⟨b, 0, none⟩ = some (.int .i64 x)) (h1 : w.cell? ⟨b, 1, none⟩ = some (.int .i64 y)) (h2 : w.cell? ⟨b, 2, none⟩ = some (.int .i64 z)) : IntsAt w (.slice (some ⟨b, 0, none⟩) 3 cap) [x, y, z] :=
  ints_at (xs := [x, y, z]) (by simp) fun i hi => by
    have : i = 0 ∨ i = 1 ∨ i = 2 := by simp at hi; omega
    rcases this with rfl | rfl | rfl
    · exact h
    · exact h1
    · exact h2

theorem box_reads {w w1 : World} {P Q G : Int} {o : Obj} (ho : o = .cells #[.int .i64 P, .int .i64 Q, .int .i64 G] 52) (hU : Up (w.alloc o) w1) : GrpAt w1 w.heap.size P Q G := by
  have hb := alloc_at w o _ rfl
  have hlt : w.heap.size < (w.alloc o).heap.size := by simp
  have hk := hU.block hlt
  rw [hb, ho] at hk
  exact ⟨by simp [World.cell?, hk], by simp [World.cell?, hk], by simp [World.cell?, hk]⟩
end Go.Proofs.YtdlcmpbpdbpanaaDoor
