/- Plain facts on sorted lists of integers. From a walk that returns true and leaves all that was there as it was, to a law's post; arguments opened. Boxes of groups; short slices. What a region that draws its order keeps: loaded cells, and that nothing old has turned. A region that draws its order, whose operations only read, and whose callees leave all that was there as it was: one walk, in the order of the text. -/
import Derived.Test.YtoaomjdpiealfaaGreatDoorMB3
import Derived.Test.YtoaomjdpiealfaaGreatDoorCards
import Derived.Test.YtoaomjdpiealfaaGreatDoorTie
import Derived.Test.YtoaomjdpiealfaaGreatDoorMB1
import Derived.ProofKit
import Derived.OpenShut
import Derived.Carry
import Derived.Deep.DeepHandedRow
import Derived.Lib.LaidTab
import Derived.Lib.SmallJoins
import Derived.Stop.LaidErr
import Derived.Deep.RegionHeld3
import Derived.BigQuiet
namespace Go.Proofs.YtoaomjdpiealfaaGreatDoor
open Go.Sp

theorem isort_perm (xs : List Int) : (isort xs).Perm xs := List.mergeSort_perm _ _

theorem isort_sorted (xs : List Int) : (isort xs).Pairwise (· ≤ ·) :=
  (List.pairwise_mergeSort (le := fun x y : Int => decide (x ≤ y)) (fun _ _ _ h1 h2 => by simp at *; omega) (fun _ _ => by simp; omega) xs).imp (fun h => by simpa using h)

theorem sorted_eq {xs ys : List Int} (h1 : xs.Pairwise (· ≤ ·)) (h2 : ys.Pairwise (· ≤ ·)) (h : xs.Perm ys) : xs = ys :=
  List.Perm.eq_of_pairwise (fun _ _ _ _ h3 h4 => Int.le_antisymm h3 h4) h1 h2 h

theorem isort_eq {xs ys : List Int} (h2 : ys.Pairwise (· ≤ ·)) (h : xs.Perm ys) : isort xs = ys :=
  sorted_eq (isort_sorted xs) h2 ((isort_perm xs).trans h)

theorem isort_small : isort (powList 23 4 (11 : Int).toNat) = [1, 2, 3, 4, 6, 8, 9, 12, 13, 16, 18] :=
  isort_eq (by decide) (by decide +kernel)
end Go.Proofs.YtoaomjdpiealfaaGreatDoor
namespace Go.Proofs.YtoaomjdpiealfaaGreatDoor
open Go.ChangeShapes Go.WideShapes Go.ChangeAt Go.RowKit Go.Sp Go.Joins

section
variable {H : Type} {enc : TypeId × Value → H} {P : Program}

theorem trodAll_later (hl : laidOutB P = true) {W W' : World} (hb : Below W.heap.size W W') : ∀ {ts : List TypeId} {vs : List Value} {ds : List (DataW H)} {ps : List MemPlace},
    ts.all (fun t => P.readableRec t && decide (t < P.types.size)) = true → (∀ x ∈ ps, x.block < W.heap.size) → DataW.TrodAll enc P W 0 (fun _ => true) true ts vs ds ps →
    DataW.TrodAll enc P W' 0 (fun b => decide (b < W.heap.size)) true ts vs ds ps
  | [], _, _, _, _, _, h => by
    obtain ⟨rfl, rfl, rfl⟩ := trodAll_nil h
    exact trodAll_mk0
  | t :: ts, _, _, _, hr, hlt, h => by
    obtain ⟨v, vs, d, ds, p, q, rfl, rfl, rfl, h1, h2⟩ := trodAll_cons h
    simp only [List.all_cons, Bool.and_eq_true, decide_eq_true_eq] at hr
    exact trodAll_cons_mk (Below.trod hl hr.1.1 hr.1.2 h1 hb (fun x hx => hlt x (List.mem_append_left _ hx)))
      (trodAll_later hl hb hr.2 (fun x hx => hlt x (List.mem_append_right _ hx)) h2)

/-- A law's post: true came back; nothing that was there has turned. -/
theorem law_shut {f : Func} {s : ChangeSpec} {T : TypeId} {W W' : World} {args : Array Value} {ds gs : List (DataW H)} {before : List MemPlace} (hb : P.underlying T = some .bool) (hr : f.resultTypes = #[T]) (hv : s.vars = [])
    (hs : s.fn H (ds ++ gs) = { results := [.lit (.bool true)], args := ds }) (hl : laidOutB P = true) (hpar : f.params.toList.all (fun t => P.readableRec t && decide (t < P.types.size)) = true)
    (hW : DataW.Whole enc P f.params.toList s.vars false W args.toList ds gs before) (hU : Below W.heap.size W W') : s.post enc P f false true false false W args (.bool true) W' := by
  have hlt := hW.lt
  have hW2 := hW
  obtain ⟨p, q, hA, hV, rfl, -, -⟩ := hW2
  rw [hv] at hV
  obtain ⟨rfl, rfl⟩ := trodVars_none hV
  rw [List.append_nil] at hlt
  refine ⟨ds, [], p ++ [], [], p, [], hW, ?_, ?_, ?_, Below.frame hU _, fun h => by cases h⟩
  · rw [hs, hr]
    exact trodAll_mk1 (shut_bool hb true)
  · rw [hs]
    exact trodAll_later hl hU hpar hlt hA
  · rw [hs, hv]
    rfl
end

theorem own : ownKnob Tryz.prog.godebug = none := by kernel_rfl
theorem laidOut : laidOutB Tryz.prog = true := by kernel_rfl
theorem gBases : Tryz.prog.globalNamed "specie/prime.bases" = some 0 := by kernel_rfl
theorem gBasesType : (Tryz.prog.globals[0]?).map (·.type) = some 180 := by kernel_rfl
theorem gTab : Tryz.prog.globalNamed "math/bits.deBruijn64tab" = some 2 := by kernel_rfl
theorem gTabType : (Tryz.prog.globals[2]?).map (·.type) = some 227 := by kernel_rfl
theorem cellsBases : Tryz.prog.cellsOf 180 = 12 := by kernel_rfl
theorem cellsTab : Tryz.prog.cellsOf 227 = 64 := by kernel_rfl
theorem cellsU64 : Tryz.prog.cellsOf 179 = 1 := by kernel_rfl
theorem cellsU8 : Tryz.prog.cellsOf 5 = 1 := by kernel_rfl
theorem cellsInt : Tryz.prog.cellsOf 3 = 1 := by kernel_rfl
theorem cellsGroup : Tryz.prog.cellsOf 23 = 3 := by kernel_rfl

/-- What each row lists. -/
abbrev laidTwo : List (String × DataW Unit) := [("math/bits.deBruijn64tab", Rows.laid_math_bits_deBruijn64tab), ("specie/prime.bases", Rows.laid_specie_prime_bases)]

theorem laid_tail {P : Program} {x : String × DataW Unit} {l : List (String × DataW Unit)} {w : World} (h : laidMet P (x :: l) w) : laidMet P l w := laidMet.tail h

theorem tab_of_laid {W : World} (h : laidMetH Tryz.prog laidTwo W) : Tab W := by
  have h0 : laidMet Tryz.prog laidTwo W := h
  have t1 : Lib.TabIs Tryz.prog W "math/bits.deBruijn64tab" .u8 (Lib.deBruijn64tab.map fun n : Nat => (n : Int)) :=
    Lib.tabIs_of_head (rest := [("specie/prime.bases", Rows.laid_specie_prime_bases)]) gTab gTabType Tryz.underlying227 Tryz.underlying5 cellsU8 cellsTab h0
  have t2 : Lib.TabIs Tryz.prog W "specie/prime.bases" .u64 baseList :=
    Lib.tabIs_of_head (rest := []) gBases gBasesType Tryz.underlying180 Tryz.underlying179 cellsU64 cellsBases (laid_tail h0)
  refine ⟨?_, fun i hi => ?_⟩
  · unfold Lib.TabIs World.var? at t2
    rw [gBases] at t2
    simp only [Option.bind_some] at t2
    split at t2
    · rename_i cs t fr hh
      simp only [Option.some.injEq] at t2
      exact ⟨t, fr, by rw [hh, t2]; rfl⟩
    · cases t2
  · have := t1.cell gTab i (by simpa [Lib.deBruijn64tab] using hi)
    rw [this]
    simp [List.getD_eq_getElem?_getD]
    cases h : Lib.deBruijn64tab[i]? <;> simp

set_option maxRecDepth 100000 in
/-- A group among the arguments: three numbers in their range. -/
theorem open_grp {H : Type} {enc : TypeId × Value → H} {r : Reach} {b0 base : Nat} {spare : Nat → Bool} {held : Bool} {w : World} {v : Value} {d : DataW H} {p : List MemPlace}
    (hv : Value.okWide Tryz.prog w r b0 23 v) (h : DataW.Trod enc Tryz.prog w base spare held 23 v d p) :
    ∃ P Q G : Int, v = grp P Q G ∧ (-9223372036854775808 ≤ P ∧ P ≤ 9223372036854775807) ∧ (-9223372036854775808 ≤ Q ∧ Q ≤ 9223372036854775807) ∧ (-9223372036854775808 ≤ G ∧ G ≤ 9223372036854775807) := by
  obtain ⟨c0, c1, c2, y0, y1, y2, m, rfl, rfl, rfl, hy0, hy1, hy2⟩ := open_agg3 Tryz.underlying23 (by kernel_rfl) cellsGroup hv h
  obtain ⟨a, e0, rfl, wa⟩ := DataW.trod_int Tryz.underlying3 hy0
  obtain ⟨b, e1, rfl, wb⟩ := DataW.trod_int Tryz.underlying3 hy1
  obtain ⟨c, e2, rfl, wc⟩ := DataW.trod_int Tryz.underlying3 hy2
  simp at e0 e1 e2
  subst e0 e1 e2
  exact ⟨a, b, c, rfl, bounds_i64 wa, bounds_i64 wb, bounds_i64 wc⟩

set_option maxRecDepth 100000 in
/-- An int among the arguments. -/
theorem open_i64 {H : Type} {enc : TypeId × Value → H} {r : Reach} {b0 base : Nat} {spare : Nat → Bool} {held : Bool} {w : World} {v : Value} {d : DataW H} {p : List MemPlace}
    (hv : Value.okWide Tryz.prog w r b0 3 v) (h : DataW.Trod enc Tryz.prog w base spare held 3 v d p) :
    ∃ x : Int, v = .int .i64 x ∧ -9223372036854775808 ≤ x ∧ x ≤ 9223372036854775807 := by
  obtain ⟨x, rfl, rfl, rfl, wx⟩ := open_int Tryz.underlying3 hv h
  exact ⟨x, rfl, (bounds_i64 wx).1, (bounds_i64 wx).2⟩
end Go.Proofs.YtoaomjdpiealfaaGreatDoor
namespace Go.Proofs.YtoaomjdpiealfaaGreatDoor
open Go.RowKit Go.Sp
set_option maxHeartbeats 1000000

theorem alloc_at (w : World) (o : Obj) (b : Nat) (h : b = w.heap.size) : (w.alloc o).heap[b]? = some o := by
  subst h
  show (w.heap.push o)[w.heap.size]? = some o
  simp

theorem chk_cases {P Q G : Int} {xs : List Int} (h : chkI P Q G xs = 0) : gvB P Q G = true ∧ ∀ x ∈ xs, elB P Q x = true := by
  unfold chkI at h
  split at h
  · split at h
    · rename_i h1 h2; exact ⟨h1, fun x hx => List.all_eq_true.1 h2 x hx⟩
    · cases h
  · cases h

theorem ints_three {w : World} {b cap : Nat} {x y z : Int} (h : w.cell? ⟨b, 0, none⟩ = some (.int .i64 x)) (h1 : w.cell? ⟨b, 1, none⟩ = some (.int .i64 y)) (h2 : w.cell? ⟨b, 2, none⟩ = some (.int .i64 z)) : IntsAt w (.slice (some ⟨b, 0, none⟩) 3 cap) [x, y, z] :=
  ints_at (xs := [x, y, z]) (by simp) fun i hi => by
    have : i = 0 ∨ i = 1 ∨ i = 2 := by simp at hi; omega
    rcases this with rfl | rfl | rfl
    · exact h
    · exact h1
    · exact h2

theorem box_reads {w w1 : World} {P Q G : Int} {o : Obj} (ho : o = .cells #[.int .i64 P, .int .i64 Q, .int .i64 G] 23) (hU : Up (w.alloc o) w1) : GrpAt w1 w.heap.size P Q G := by
  have hb := alloc_at w o _ rfl
  have hlt : w.heap.size < (w.alloc o).heap.size := by simp
  have hk := hU.block hlt
  rw [hb, ho] at hk
  exact ⟨by simp [World.cell?, hk], by simp [World.cell?, hk], by simp [World.cell?, hk]⟩
end Go.Proofs.YtoaomjdpiealfaaGreatDoor
namespace Go.Proofs.YtoaomjdpiealfaaGreatDoor
open Go.RowKit Go.Sp

theorem cellUp {w w' : World} {b o : Nat} {v : Value} (hU : Up w w') (h : w.cell? ⟨b, o, none⟩ = some v) : w'.cell? ⟨b, o, none⟩ = some v := by
  rw [hU.cell (cell_lt h)]; exact h

theorem keepC1 {w0 w w' : World} {b1 o1 : Nat} {v1 : Value} (hU : Up w w') (h : w.cell? ⟨b1, o1, none⟩ = some v1 ∧ Hid (Up w0 w)) : w'.cell? ⟨b1, o1, none⟩ = some v1 ∧ Hid (Up w0 w') :=
  ⟨cellUp hU h.1, hid (h.2.out.trans hU)⟩
theorem keepC2 {w0 w w' : World} {b1 o1 b2 o2 : Nat} {v1 v2 : Value} (hU : Up w w') (h : w.cell? ⟨b1, o1, none⟩ = some v1 ∧ w.cell? ⟨b2, o2, none⟩ = some v2 ∧ Hid (Up w0 w)) :
    w'.cell? ⟨b1, o1, none⟩ = some v1 ∧ w'.cell? ⟨b2, o2, none⟩ = some v2 ∧ Hid (Up w0 w') := ⟨cellUp hU h.1, keepC1 hU h.2⟩
theorem keepC3 {w0 w w' : World} {b1 o1 b2 o2 b3 o3 : Nat} {v1 v2 v3 : Value} (hU : Up w w') (h : w.cell? ⟨b1, o1, none⟩ = some v1 ∧ w.cell? ⟨b2, o2, none⟩ = some v2 ∧ w.cell? ⟨b3, o3, none⟩ = some v3 ∧ Hid (Up w0 w)) :
    w'.cell? ⟨b1, o1, none⟩ = some v1 ∧ w'.cell? ⟨b2, o2, none⟩ = some v2 ∧ w'.cell? ⟨b3, o3, none⟩ = some v3 ∧ Hid (Up w0 w') := ⟨cellUp hU h.1, keepC2 hU h.2⟩
theorem keepC4 {w0 w w' : World} {b1 o1 b2 o2 b3 o3 b4 o4 : Nat} {v1 v2 v3 v4 : Value} (hU : Up w w') (h : w.cell? ⟨b1, o1, none⟩ = some v1 ∧ w.cell? ⟨b2, o2, none⟩ = some v2 ∧ w.cell? ⟨b3, o3, none⟩ = some v3 ∧ w.cell? ⟨b4, o4, none⟩ = some v4 ∧ Hid (Up w0 w)) :
    w'.cell? ⟨b1, o1, none⟩ = some v1 ∧ w'.cell? ⟨b2, o2, none⟩ = some v2 ∧ w'.cell? ⟨b3, o3, none⟩ = some v3 ∧ w'.cell? ⟨b4, o4, none⟩ = some v4 ∧ Hid (Up w0 w') := ⟨cellUp hU h.1, keepC3 hU h.2⟩
theorem keepC5 {w0 w w' : World} {b1 o1 b2 o2 b3 o3 b4 o4 b5 o5 : Nat} {v1 v2 v3 v4 v5 : Value} (hU : Up w w') (h : w.cell? ⟨b1, o1, none⟩ = some v1 ∧ w.cell? ⟨b2, o2, none⟩ = some v2 ∧ w.cell? ⟨b3, o3, none⟩ = some v3 ∧ w.cell? ⟨b4, o4, none⟩ = some v4 ∧ w.cell? ⟨b5, o5, none⟩ = some v5 ∧ Hid (Up w0 w)) :
    w'.cell? ⟨b1, o1, none⟩ = some v1 ∧ w'.cell? ⟨b2, o2, none⟩ = some v2 ∧ w'.cell? ⟨b3, o3, none⟩ = some v3 ∧ w'.cell? ⟨b4, o4, none⟩ = some v4 ∧ w'.cell? ⟨b5, o5, none⟩ = some v5 ∧ Hid (Up w0 w') := ⟨cellUp hU h.1, keepC4 hU h.2⟩

theorem up1 {w1 w : World} {p : Prop} (hs : p ∧ Hid (Up w1 w)) : Up w1 w := hs.2.out
theorem up2 {w1 w : World} {p q : Prop} (hs : p ∧ q ∧ Hid (Up w1 w)) : Up w1 w := hs.2.2.out
theorem up4 {w1 w : World} {p q r s : Prop} (hs : p ∧ q ∧ r ∧ s ∧ Hid (Up w1 w)) : Up w1 w := hs.2.2.2.2.out
theorem up5 {w1 w : World} {p q r s t : Prop} (hs : p ∧ q ∧ r ∧ s ∧ t ∧ Hid (Up w1 w)) : Up w1 w := hs.2.2.2.2.2.out

/-- An element of a slice, in a later world. -/
theorem ints_cell {w w' : World} {a : Option Addr} {xs : List Int} (hc : xs ≠ [] → ∃ b off, a = some ⟨b, off, none⟩ ∧ ∀ i, i < xs.length → w.cell? ⟨b, off + i, none⟩ = some (.int .i64 (xs.getD i 0))) (hU : Up w w') {i : Nat} (hi : i < xs.length) :
    ∃ b off, a = some ⟨b, off, none⟩ ∧ w'.cell? ⟨b, off + i, none⟩ = some (.int .i64 (xs.getD i 0)) := by
  obtain ⟨b, off, rfl, h⟩ := hc (by rintro rfl; simp at hi)
  exact ⟨b, off, rfl, cellUp hU (h i hi)⟩

theorem drop_step {xs : List Int} {i : Nat} (hi : i < xs.length) : xs.drop i = xs.getD i 0 :: xs.drop (i + 1) := by
  rw [List.drop_eq_getElem_cons hi]; simp [hi]
theorem getD_mem {xs : List Int} {i : Nat} (hi : i < xs.length) : xs.getD i 0 ∈ xs := by simp [hi]
end Go.Proofs.YtoaomjdpiealfaaGreatDoor
namespace Go.Sp
open Go.RowKit

/-- A world in which nothing of w has turned. -/
structure UpFrom (w : World) where
  w' : World
  up : Up w w'

instance (w : World) : Nonempty (UpFrom w) := ⟨⟨w, Up.refl w⟩⟩

theorem UpFrom.frozen {w : World} {a : Addr} {x : Bool} (h : w.frozen? a = x) (ha : a.block < w.heap.size) (p : UpFrom w) : p.w'.frozen? a = x := by rw [p.up.frozen ha]; exact h

theorem wp_region_up {P : Program} {id : Nat} {Q : Exit → Act → World → Prop} {a : Act} {w : World} {l : List Oper} (hm : P.follows .mixedOrders = true) (hB : Region.lexB .any l.toArray = true)
    (h : wpQuiet P l.toArray (fun w' => ∃ p : UpFrom w, w' = p.w') (fun a' => ∀ w', (∃ p : UpFrom w, w' = p.w') → Q .normal a' w') l a) : (Code.region id l.toArray true).wp P Q a w :=
  wp_region_quiet (C := fun w' => ∃ p : UpFrom w, w' = p.w') hm hB ⟨⟨_, (Up.refl w).drew⟩, rfl⟩ (by simpa using h)

/-- A callee's contract, met in a world of the class. -/
theorem Calls.up_of {P : Program} {f : FuncId} {args : Array Value} {w : World} {p : UpFrom w} {v : Value}
    (h : Calls P f args p.w' fun e w' => e = .returned v ∧ Up p.w' w') : Calls P f args p.w' fun e w'' => e = .returned v ∧ ∃ q : UpFrom w, w'' = q.w' :=
  h.mono fun _ _ ⟨he, hu⟩ => ⟨he, ⟨_, p.up.trans hu⟩, rfl⟩

theorem Calls.up_same {P : Program} {f : FuncId} {args : Array Value} {w : World} {p : UpFrom w} {v : Value}
    (h : Calls P f args p.w' fun e w' => e = .returned v ∧ p.w' = w') : Calls P f args p.w' fun e w'' => e = .returned v ∧ ∃ q : UpFrom w, w'' = q.w' :=
  h.mono fun _ _ ⟨he, hu⟩ => ⟨he, p, hu.symm⟩
end Go.Sp
