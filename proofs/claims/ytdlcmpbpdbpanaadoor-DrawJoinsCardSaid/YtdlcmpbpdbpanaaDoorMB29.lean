/- GroupProducts: the walk. Logarithms. Logarithms: what is refused, the base 1, small groups; slices.Contains. From a walk that returns true and leaves all that was there as it was, to a law's post; arguments opened. -/
import Derived.Test.YtdlcmpbpdbpanaaDoorMB25
import Derived.Test.YtdlcmpbpdbpanaaDoorMB11
import Derived.Test.YtdlcmpbpdbpanaaDoorMB28
import Derived.Test.YtdlcmpbpdbpanaaDoorMB27
import Derived.Test.YtdlcmpbpdbpanaaDoorCards
import Derived.Test.YtdlcmpbpdbpanaaDoorTie
import Derived.Test.YtdlcmpbpdbpanaaDoorMB14
import Derived.Deep.RegionHeld3
import Derived.BigQuiet
import Derived.IntWalk
import Derived.ProofKit
import Derived.OpenShut
import Derived.Carry
import Derived.Deep.DeepHandedRow
import Derived.Lib.LaidTab
import Derived.Lib.SmallJoins
import Derived.Stop.LaidErr
namespace Go.Proofs.YtdlcmpbpdbpanaaDoor
open Go.RowKit Go.Sp
set_option maxHeartbeats 1000000
set_option maxRecDepth 8000

def isR (x e f want : Int) : Bool := if (f != 0) = true then e == f && x == 0 else e == 0 && x == want

theorem isR_bad {x f want : Int} (h : (f == 0) = false) (hx : x = 0) : isR x f f want = true := by
  have : f ≠ 0 := by simpa using h
  simp [isR, this, hx]
theorem isR_good {x f want : Int} (h : (f == 0) = true) (hx : x = want) : isR x f 0 want = true := by
  have : f = 0 := by simpa using h
  simp [isR, this, hx]

theorem chk_all {P Q G : Int} {xs : List Int} (h : (chkI P Q G xs == 0) = true) : gvB P Q G = true ∧ ∀ x ∈ xs, elB P Q x = true := chk_cases (by simpa using h)

theorem gMul_any (P Q G a b : Int) (w : World) (hP : -9223372036854775808 ≤ P) (hQ : Q ≤ 9223372036854775807) (hT : Tab w) :
    Calls Tryd.prog 41 #[grp P Q G, .int .i64 a, .int .i64 b] w fun e w' => e = .returned (.tuple #[.int .i64 (if chkI P Q G [a, b] = 0 then a * b % P else 0), .int .i64 (chkI P Q G [a, b])]) ∧ Up w w' := by
  by_cases h : chkI P Q G [a, b] = 0
  · obtain ⟨hg, hx⟩ := chk_cases h
    rw [if_pos h, h]
    exact gMul_ok P Q G a b w hQ hT hg (hx a (by simp)) (hx b (by simp))
  · rw [if_neg h]
    exact gMul_bad P Q G a b _ w hP hQ hT rfl (by simp [h])

theorem gPower_any (P Q G a k : Int) (w : World) (hP : -9223372036854775808 ≤ P) (hQ : Q ≤ 9223372036854775807) (hT : Tab w) (k0 : -9223372036854775808 ≤ k) (k1 : k ≤ 9223372036854775807) :
    Calls Tryd.prog 40 #[grp P Q G, .int .i64 a, .int .i64 k] w fun e w' => e = .returned (.tuple #[.int .i64 (if chkI P Q G [a] = 0 then gpw P Q a k else 0), .int .i64 (chkI P Q G [a])]) ∧ Up w w' := by
  by_cases h : chkI P Q G [a] = 0
  · obtain ⟨hg, hx⟩ := chk_cases h
    rw [if_pos h, h]
    exact gPower_ok P Q G a k w hQ hT hg (hx a (by simp)) k0 k1
  · rw [if_neg h]
    exact gPower_bad P Q G a k _ w hP hQ hT rfl (by simp [h])

theorem keepG {w0 w w' : World} {b : Nat} {P Q G : Int} (hU : Up w w')
    (h : w.cell? ⟨b, 0, none⟩ = some (.int .i64 P) ∧ w.cell? ⟨b, 1, none⟩ = some (.int .i64 Q) ∧ w.cell? ⟨b, 2, none⟩ = some (.int .i64 G) ∧ Hid (Up w0 w)) :
    w'.cell? ⟨b, 0, none⟩ = some (.int .i64 P) ∧ w'.cell? ⟨b, 1, none⟩ = some (.int .i64 Q) ∧ w'.cell? ⟨b, 2, none⟩ = some (.int .i64 G) ∧ Hid (Up w0 w') := by
  obtain ⟨a, b', c⟩ := GrpAt.up ⟨h.1, h.2.1, h.2.2.1⟩ hU
  exact ⟨a, b', c, hid (h.2.2.2.out.trans hU)⟩

theorem tabOf {w1 w : World} {p q r : Prop} (h : Hid (Tab w1)) (hs : p ∧ q ∧ r ∧ Hid (Up w1 w)) : Tab w := h.out.up hs.2.2.2.out

theorem upOf {w1 w : World} {p q r : Prop} (hs : p ∧ q ∧ r ∧ Hid (Up w1 w)) : Up w1 w := hs.2.2.2.out

end Go.Proofs.YtdlcmpbpdbpanaaDoor
namespace Go.Proofs.YtdlcmpbpdbpanaaDoor
open Go.RowKit Go.Sp Go.Maps
set_option maxHeartbeats 1000000
set_option maxRecDepth 20000

theorem keyedInt : Keyed Tryd.prog 3 := int_keyed Tryd.underlying3
theorem zeroInt (w : World) : (zeroValue 3).run Tryd.prog w = .ok (.int .i64 0) w := by kernel_rfl

theorem GrpAt.grown {w w' : World} {b B : Nat} {P Q G : Int} (h : GrpAt w b P Q G) (hg : w.grownBy w' (some B)) (hne : b < B) : GrpAt w' b P Q G := by
  obtain ⟨q0, q1, q2⟩ := h
  have hk := hg.block b (cell_lt q0) (fun e => by injection e; omega)
  exact ⟨by rw [World.cell?_of_block (w := w) hk]; exact q0, by rw [World.cell?_of_block (w := w) hk]; exact q1, by rw [World.cell?_of_block (w := w) hk]; exact q2⟩

theorem wf_i64 {x : Int} (h0 : -9223372036854775808 ≤ x) (h1 : x ≤ 9223372036854775807) : (Lit.int .i64 x).wf = true := by
  have a : IntKind.i64.min = -9223372036854775808 := by decide
  have b : IntKind.i64.max = 9223372036854775807 := by decide
  simp [Lit.wf, a, b, h0, h1]

theorem ownsMap_up {H : Type} {w w' : World} {P : Program} {k : TypeId} {R : Value → Option (DataW H × List MemPlace)} {b n : Nat} {D : DataW H} (h : w.ownsMap P k R b n D) (hU : Up w w') : w'.ownsMap P k R b n D := by
  obtain ⟨es, cl, hb, rest⟩ := h
  exact ⟨es, cl, by rw [hU.block (Array.getElem?_eq_some_iff.1 hb).1]; exact hb, rest⟩

end Go.Proofs.YtdlcmpbpdbpanaaDoor
namespace Go.Proofs.YtdlcmpbpdbpanaaDoor
open Go.RowKit Go.Sp
set_option maxHeartbeats 1000000
set_option maxRecDepth 20000

/-- In a small group each element has a logarithm. -/
theorem log_there {P Q G b x : Int} (hg : gvB P Q G = true) (hP : P < 1048576) (hb : elB P Q b = true) (hb1 : b ≠ 1) (hx : elB P Q x = true) : ∃ n : Nat, n < Q.toNat ∧ x = pw b n P := by
  have g := gv_iff.1 hg
  have g4 := g.QP
  have hm := mem_pows (prim_of g.pP hP) (prim_of g.pQ (by omega)) hb hb1 hx
  obtain ⟨n, hn, rfl⟩ := List.mem_map.1 hm
  exact ⟨n, List.mem_range.1 hn, rfl⟩

theorem found_has {P Q x : Int} (h2 : 2 ≤ P) : (found P Q (P - 1).toNat).contains x = elB P Q x := by
  rw [Bool.eq_iff_iff, List.contains_iff_mem, mem_found]
  constructor
  · exact fun h => h.2.2
  · intro h
    have := el_range h
    exact ⟨by omega, by omega, h⟩

theorem chkI_one {P Q G x : Int} (hg : gvB P Q G = true) : chkI P Q G [x] = if elB P Q x = true then 0 else 2 := by
  simp [chkI, hg]
end Go.Proofs.YtdlcmpbpdbpanaaDoor
namespace Go.Proofs.YtdlcmpbpdbpanaaDoor
open Go.ChangeShapes Go.WideShapes Go.ChangeAt Go.RowKit Go.Sp Go.Joins

section
variable {H : Type} {enc : TypeId × Value → H} {P : Program}

theorem trodAll_later (hl : laidOutB P = true) {W W' : World} (hb : Below W.heap.size W W') : ∀ {ts : List TypeId} {vs : List Value} {ds : List (DataW H)} {ps : List MemPlace},
    ts.all (fun t => P.readableRec t && decide (t < P.types.size)) = true → (∀ x ∈ ps, x.block < W.heap.size) → DataW.TrodAll enc P W 0 (fun _ => true) true ts vs ds ps →
    DataW.TrodAll enc P W' 0 (fun b => decide (b < W.heap.size)) true ts vs ds ps
  | [], _, _, _, _, _, h => by
    obtain ⟨rfl, rfl, rfl⟩ := trodAll_nil h
    exact trodAll_mk0
  | t :: ts, _, _, _, hr, hlt, h => by
    obtain ⟨v, vs, d, ds, p, q, rfl, rfl, rfl, h1, h2⟩ := trodAll_cons h
    simp only [List.all_cons, Bool.and_eq_true, decide_eq_true_eq] at hr
    exact trodAll_cons_mk (Below.trod hl hr.1.1 hr.1.2 h1 hb (fun x hx => hlt x (List.mem_append_left _ hx)))
      (trodAll_later hl hb hr.2 (fun x hx => hlt x (List.mem_append_right _ hx)) h2)

/-- A law's post: true came back; nothing that was there has turned. -/
theorem law_shut {f : Func} {s : ChangeSpec} {T : TypeId} {W W' : World} {args : Array Value} {ds gs : List (DataW H)} {before : List MemPlace} (hb : P.underlying T = some .bool) (hr : f.resultTypes = #[T]) (hv : s.vars = [])
    (hs : s.fn H (ds ++ gs) = { results := [.lit (.bool true)], args := ds }) (hl : laidOutB P = true) (hpar : f.params.toList.all (fun t => P.readableRec t && decide (t < P.types.size)) = true)
    (hW : DataW.Whole enc P f.params.toList s.vars false W args.toList ds gs before) (hU : Below W.heap.size W W') : s.post enc P f false true false false W args (.bool true) W' := by
  have hlt := hW.lt
  have hW2 := hW
  obtain ⟨p, q, hA, hV, rfl, -, -⟩ := hW2
  rw [hv] at hV
  obtain ⟨rfl, rfl⟩ := trodVars_none hV
  rw [List.append_nil] at hlt
  refine ⟨ds, [], p ++ [], [], p, [], hW, ?_, ?_, ?_, Below.frame hU _, fun h => by cases h⟩
  · rw [hs, hr]
    exact trodAll_mk1 (shut_bool hb true)
  · rw [hs]
    exact trodAll_later hl hU hpar hlt hA
  · rw [hs, hv]
    rfl
end

theorem own : ownKnob Tryd.prog.godebug = none := by kernel_rfl
theorem laidOut : laidOutB Tryd.prog = true := by kernel_rfl
theorem gBases : Tryd.prog.globalNamed "specie/prime.bases" = some 2 := by kernel_rfl
theorem gBasesType : (Tryd.prog.globals[2]?).map (·.type) = some 203 := by kernel_rfl
theorem gTab : Tryd.prog.globalNamed "math/bits.deBruijn64tab" = some 3 := by kernel_rfl
theorem gTabType : (Tryd.prog.globals[3]?).map (·.type) = some 224 := by kernel_rfl
theorem cellsBases : Tryd.prog.cellsOf 203 = 12 := by kernel_rfl
theorem cellsTab : Tryd.prog.cellsOf 224 = 64 := by kernel_rfl
theorem cellsU64 : Tryd.prog.cellsOf 34 = 1 := by kernel_rfl
theorem cellsU8 : Tryd.prog.cellsOf 5 = 1 := by kernel_rfl
theorem cellsInt : Tryd.prog.cellsOf 3 = 1 := by kernel_rfl
theorem cellsGroup : Tryd.prog.cellsOf 52 = 3 := by kernel_rfl

/-- What each row lists. -/
abbrev laidTwo : List (String × DataW Unit) := [("math/bits.deBruijn64tab", Rows.laid_math_bits_deBruijn64tab), ("specie/prime.bases", Rows.laid_specie_prime_bases)]

theorem laid_tail {P : Program} {x : String × DataW Unit} {l : List (String × DataW Unit)} {w : World} (h : laidMet P (x :: l) w) : laidMet P l w := laidMet.tail h

theorem tab_of_laid {W : World} (h : laidMetH Tryd.prog laidTwo W) : Tab W := by
  have h0 : laidMet Tryd.prog laidTwo W := h
  have t1 : Lib.TabIs Tryd.prog W "math/bits.deBruijn64tab" .u8 (Lib.deBruijn64tab.map fun n : Nat => (n : Int)) :=
    Lib.tabIs_of_head (rest := [("specie/prime.bases", Rows.laid_specie_prime_bases)]) gTab gTabType Tryd.underlying224 Tryd.underlying5 cellsU8 cellsTab h0
  have t2 : Lib.TabIs Tryd.prog W "specie/prime.bases" .u64 baseList :=
    Lib.tabIs_of_head (rest := []) gBases gBasesType Tryd.underlying203 Tryd.underlying34 cellsU64 cellsBases (laid_tail h0)
  refine ⟨?_, fun i hi => ?_⟩
  · unfold Lib.TabIs World.var? at t2
    rw [gBases] at t2
    simp only [Option.bind_some] at t2
    split at t2
    · rename_i cs t fr hh
      simp only [Option.some.injEq] at t2
      exact ⟨t, fr, by rw [hh, t2]; rfl⟩
    · cases t2
  · have := t1.cell gTab i (by simpa [Lib.deBruijn64tab] using hi)
    rw [this]
    simp [List.getD_eq_getElem?_getD]
    cases h : Lib.deBruijn64tab[i]? <;> simp

set_option maxRecDepth 100000 in
/-- A group among the arguments: three numbers in their range. -/
theorem open_grp {H : Type} {enc : TypeId × Value → H} {r : Reach} {b0 base : Nat} {spare : Nat → Bool} {held : Bool} {w : World} {v : Value} {d : DataW H} {p : List MemPlace}
    (hv : Value.okWide Tryd.prog w r b0 52 v) (h : DataW.Trod enc Tryd.prog w base spare held 52 v d p) :
    ∃ P Q G : Int, v = grp P Q G ∧ (-9223372036854775808 ≤ P ∧ P ≤ 9223372036854775807) ∧ (-9223372036854775808 ≤ Q ∧ Q ≤ 9223372036854775807) ∧ (-9223372036854775808 ≤ G ∧ G ≤ 9223372036854775807) := by
  obtain ⟨c0, c1, c2, y0, y1, y2, m, rfl, rfl, rfl, hy0, hy1, hy2⟩ := open_agg3 Tryd.underlying52 (by kernel_rfl) cellsGroup hv h
  obtain ⟨a, e0, rfl, wa⟩ := DataW.trod_int Tryd.underlying3 hy0
  obtain ⟨b, e1, rfl, wb⟩ := DataW.trod_int Tryd.underlying3 hy1
  obtain ⟨c, e2, rfl, wc⟩ := DataW.trod_int Tryd.underlying3 hy2
  simp at e0 e1 e2
  subst e0 e1 e2
  exact ⟨a, b, c, rfl, bounds_i64 wa, bounds_i64 wb, bounds_i64 wc⟩

set_option maxRecDepth 100000 in
/-- An int among the arguments. -/
theorem open_i64 {H : Type} {enc : TypeId × Value → H} {r : Reach} {b0 base : Nat} {spare : Nat → Bool} {held : Bool} {w : World} {v : Value} {d : DataW H} {p : List MemPlace}
    (hv : Value.okWide Tryd.prog w r b0 3 v) (h : DataW.Trod enc Tryd.prog w base spare held 3 v d p) :
    ∃ x : Int, v = .int .i64 x ∧ -9223372036854775808 ≤ x ∧ x ≤ 9223372036854775807 := by
  obtain ⟨x, rfl, rfl, rfl, wx⟩ := open_int Tryd.underlying3 hv h
  exact ⟨x, rfl, (bounds_i64 wx).1, (bounds_i64 wx).2⟩
end Go.Proofs.YtdlcmpbpdbpanaaDoor
