/- Records that a call makes; slices.Clone of records. From a walk that returns true and leaves all that was there as it was, to a law's post; arguments opened. A map that a call makes, keyed by three numbers: the set of what was put into it. Regions that draw their order: two or three operations may come up. Over any program. A region that draws its order, one operation with a guard that says yes. Over any program. -/
import Derived.Test.YtkimojconidhlaaDoorMB17
import Derived.Test.YtkimojconidhlaaDoorCards
import Derived.Test.YtkimojconidhlaaDoorTie
import Derived.Test.YtkimojconidhlaaDoorMB12
import Derived.Test.YtkimojconidhlaaDoorMB1
import Derived.Test.YtkimojconidhlaaDoorMB14
import Derived.Lib.SliceRun
import Derived.ProofKit
import Derived.OpenShut
import Derived.Carry
import Derived.Deep.DeepHandedRow
import Derived.Lib.LaidTab
import Derived.Lib.SmallJoins
import Derived.Stop.LaidErr
import Derived.Maps.OwnOps
import Derived.Maps.Views
import Derived.DeepKeys4
import Derived.Deep.RegionHeld3
namespace Go.Proofs.YtkimojconidhlaaDoor
open Go.RowKit Go.Sp
set_option maxHeartbeats 4000000
set_option maxRecDepth 20000

theorem recCells_at (rs : List Rec) (i j : Nat) (h : i < rs.length) (hj : j < 11) : (rs.flatMap Rec.cells)[i * 11 + j]? = (rs[i].cells)[j]? := by
  induction rs generalizing i with
  | nil => simp at h
  | cons q rs ih =>
    rw [List.flatMap_cons]
    have hl : q.cells.length = 11 := rfl
    cases i with
    | zero =>
      rw [List.getElem?_append_left (by omega)]
      simp
    | succ i =>
      rw [List.getElem?_append_right (by omega), hl, show (i + 1) * 11 + j - 11 = i * 11 + j by omega, ih i (by simpa using h)]
      simp
theorem recCells_length (rs : List Rec) : (rs.flatMap Rec.cells).length = rs.length * 11 := by
  induction rs with
  | nil => rfl
  | cons q rs ih =>
    rw [List.flatMap_cons, List.length_append, ih, List.length_cons]
    have hl : q.cells.length = 11 := rfl
    omega
theorem RecAt.cell {w : World} {b o : Nat} {r : Rec} (h : RecAt w b o r) {k : Nat} (hk : k < 11) : w.cell? ⟨b, o + k, none⟩ = r.cells[k]? := by
  obtain ⟨h0, h1, h2, h3, h4, h5, h6, h7, h8, h9, h10⟩ := h
  rcases eleven hk with rfl | rfl | rfl | rfl | rfl | rfl | rfl | rfl | rfl | rfl | rfl
  · exact h0
  · exact h1
  · exact h2
  · exact h3
  · exact h4
  · exact h5
  · exact h6
  · exact h7
  · exact h8
  · exact h9
  · exact h10
theorem RecAt.of {w : World} {b o : Nat} {r : Rec} (h : ∀ k, k < 11 → w.cell? ⟨b, o + k, none⟩ = r.cells[k]?) : RecAt w b o r :=
  ⟨h 0 (by omega), h 1 (by omega), h 2 (by omega), h 3 (by omega), h 4 (by omega), h 5 (by omega), h 6 (by omega), h 7 (by omega), h 8 (by omega), h 9 (by omega), h 10 (by omega)⟩

/-- Records of the call's own. -/
def OwnR (e : TypeId) (w : World) (base : Nat) (v : Value) (rs : List Rec) : Prop := w.ownsRow base e 11 v rs.length (rs.flatMap Rec.cells)
theorem ownR_none {e : TypeId} {w : World} {base : Nat} : OwnR e w base nilS [] := ⟨by simp, .inl ⟨rfl, rfl⟩⟩
theorem ownR_zero {e : TypeId} {w : World} {base g : Nat} (h : Blk w g e #[]) (hb : base ≤ g) : OwnR e w base (.slice (some ⟨g, 0, none⟩) 0 0) [] := ⟨by simp, .inr ⟨g, 0, #[], rfl, hb, h, by simp, by unfold maxLen; omega, by simp, by simp⟩⟩
theorem OwnR.up {e : TypeId} {w w' : World} {base : Nat} {v : Value} {rs : List Rec} (h : OwnR e w base v rs) (hU : Up w w') : OwnR e w' base v rs := ownsRow_later h hU
theorem OwnR.shape {e : TypeId} {w : World} {base : Nat} {v : Value} {rs : List Rec} (h : OwnR e w base v rs) : ∃ a c, v = .slice a rs.length c := by
  rcases h.2 with ⟨hv, hn⟩ | ⟨g, cap, cur, rfl, _⟩
  · exact ⟨none, 0, by rw [hv, hn]⟩
  · exact ⟨_, _, rfl⟩
theorem OwnR.block {e : TypeId} {w : World} {base : Nat} {v : Value} {rs : List Rec} (h : OwnR e w base v rs) (j : Nat) (hj : v.ownBlock = some j) : base ≤ j := by
  rcases h.2 with ⟨hv, _⟩ | ⟨g, cap, cur, rfl, hb, _⟩
  · rw [hv] at hj; cases hj
  · simp [Value.ownBlock] at hj; omega
theorem OwnR.below {e : TypeId} {w w' : World} {base : Nat} {v : Value} {rs : List Rec} (h : OwnR e w base v rs) (hg : w.grownBy w' v.ownBlock) (hb : base ≤ w.heap.size) : Below base w w' := Below.grown (Below.refl base w) hg hb fun j hj => h.block j hj
theorem OwnR.mono {e : TypeId} {w : World} {base base' : Nat} {v : Value} {rs : List Rec} (h : OwnR e w base v rs) (hb : base' ≤ base) : OwnR e w base' v rs := by
  rcases h.2 with ⟨hv, hn⟩ | ⟨g, cap, cur, rfl, h1, h2⟩
  · exact ⟨h.1, .inl ⟨hv, hn⟩⟩
  · exact ⟨h.1, .inr ⟨g, cap, cur, rfl, by omega, h2⟩⟩
theorem OwnR.recs {e : TypeId} {w : World} {base : Nat} {v : Value} {rs : List Rec} (h : OwnR e w base v rs) : RecsAt w v rs := by
  have hh := h
  rcases h.2 with ⟨hv, hn⟩ | ⟨g, cap, cur, rfl, hb, hg, hn, hm, hs, ht⟩
  · exact ⟨by omega, none, 0, by rw [hv, hn], fun hne => absurd (List.eq_nil_of_length_eq_zero hn) hne⟩
  · refine ⟨by unfold maxLen at hm; omega, _, cap, rfl, fun _ => ⟨g, 0, rfl, fun i hi => RecAt.of fun k hk => ?_⟩⟩
    rw [Nat.zero_add, show rs.getD i rec0 = rs[i] by simp [hi], ← recCells_at rs i k hi hk]
    exact World.ownsRow.cellAt hh (i * 11 + k) (by omega)
theorem infoKR : (Tryd.prog.info? 46).map (fun i => (i.zero, i.size, i.bytes)) = some (some (epo 0 0 0 0 0 0 0 0 0 0 0), 11, 88) := by kernel_rfl

/-- append(l, more...) onto the call's own records: at the operation of a walk. -/
theorem wp_appR {t : TypeId} (ht : Tryd.prog.underlying t = some (.slice 46))
    {ops : Array Oper} {rest : List Oper} {o : Oper} {a : Act} {w : World} {Q : Exit → Act → World → Prop} (hgd : o.guard = none) (s x : Operand)
    (ho : o.op = .call { callee := .builtin .append, args := #[s, x], argTypes := #[t, t] })
    (base : Nat) {v : Value} {rs news : List Rec} (hs : a.eval s = v) (hown : OwnR 46 w base v rs) (g off c : Nat) (hx : a.eval x = .slice (some ⟨g, off, none⟩) news.length c)
    (hblk : ∀ i (h : i < news.length), RecAt w g (off + i * 11) news[i])
    (hroom : rs.length + news.length ≤ 1000000) (hbase : base ≤ w.heap.size)
    (h : ∀ v' w', OwnR 46 w' base v' (rs ++ news) → w.grownBy w' v.ownBlock → wpList Tryd.prog ops Q rest (a.put o.dst v') w') : wpList Tryd.prog ops Q (o :: rest) a w := by
  obtain ⟨i0, hi, hz0, hz1, hz2⟩ := info_parts infoKR
  refine wpList_append_own w hgd s x t ho base 46 i0 _ 11 88 ht hi hz0 hz1 hz2 rfl (by decide) v rs.length _ hs hown ⟨g, off, none⟩ news.length c (news.flatMap Rec.cells) hx (recCells_length _) (fun j u hj => ?_) (fun u hu => ?_) (by unfold maxLen; omega) (by omega) hbase fun v' w' h1 h2 _ => h v' w' (by
        unfold OwnR
        rw [List.length_append, List.flatMap_append]
        exact h1) h2
  · have hj2 : j < news.length * 11 := by
      have := (List.getElem?_eq_some_iff.1 hj).1
      rw [recCells_length] at this
      exact this
    have h1 := (hblk (j / 11) (by omega)).cell (k := j % 11) (by omega)
    have hq := recCells_at news (j / 11) (j % 11) (by omega) (by omega)
    rw [show j / 11 * 11 + j % 11 = j by omega, hj] at hq
    rw [Addr.add_lit, show off + j = off + j / 11 * 11 + j % 11 by omega, h1]
    exact hq.symm
  · obtain ⟨r, _, hu⟩ := List.mem_flatMap.1 hu
    simp only [Rec.cells, List.mem_cons, List.not_mem_nil, or_false] at hu
    rcases hu with rfl | rfl | rfl | rfl | rfl | rfl | rfl | rfl | rfl | rfl | rfl <;> rfl

/-- Nil, or a slice with an address. -/
def NilOr (v : Value) : Prop := v = nilS ∨ ∃ a n c, v = .slice (some a) n c
theorem OwnR.nilOr {e : TypeId} {w : World} {base : Nat} {v : Value} {rs : List Rec} (h : OwnR e w base v rs) : NilOr v := by
  rcases h.2 with ⟨hv, hn⟩ | ⟨g, cap, cur, rfl, _⟩
  · exact .inl hv
  · exact .inr ⟨_, _, _, rfl⟩

theorem cloneR_any (v : Value) (rs : List Rec) (w : World) (hv : RecsAt w v rs) (hn : NilOr v) (hl : rs.length ≤ 1000) :
    Calls Tryd.prog 8 #[v] w fun e w' => ∃ v', e = .returned v' ∧ OwnR 46 w' w.heap.size v' rs ∧ Up w w' := by
  have HV := hid hv
  have HL := hid hl
  rcases hn with rfl | ⟨⟨b, off, sp⟩, n, cap, rfl⟩
  · obtain ⟨_, a, cap, hv2, hc⟩ := hv
    injection hv2 with e1 e2 e3
    obtain rfl : rs = [] := List.eq_nil_of_length_eq_zero e2.symm
    clear hc HV e1 e2 e3 hl HL
    have hnil := fun (w : World) => Lib.run_eql_slice_nil (P := Tryd.prog) w 26 46 none 0 0 0 0 Tryd.underlying26
    go_enter Tryd.func8, Tryd.ntmps8
    go_wp2
    go_ret
    exact ⟨nilS, rfl, ownR_none, Up.refl w⟩
  · have hnil := fun (w : World) => Lib.run_eql_slice_nil (P := Tryd.prog) w 26 46 (some ⟨b, off, sp⟩) n cap 0 0 Tryd.underlying26
    obtain ⟨_, a, cap', hv2, hc⟩ := hv
    injection hv2 with e1 e2 e3
    subst e1 e3
    have HC : Hid (rs ≠ [] → sp = none ∧ ∀ i, i < rs.length → RecAt w b (off + i * 11) (rs.getD i rec0)) := hid (fun hne => by
      obtain ⟨b', off', he, hcell⟩ := hc hne
      injection he with he
      injection he with h1 h2 h3
      subst h1 h2 h3
      exact ⟨rfl, hcell⟩)
    clear hc hl HV
    by_cases hne : rs = []
    · subst hne
      obtain rfl : n = 0 := e2
      go_enter Tryd.func8, Tryd.ntmps8
      go_wp2_with fail
      go_wp2
      go_ret
      exact ⟨_, rfl, ownR_zero (Blk.new rfl rfl) (Nat.le_refl _), (Up.refl w).alloc _⟩
    · obtain ⟨rfl, hcell⟩ := HC.out hne
      have HCl := hid hcell
      subst e2
      clear hcell HC hne
      go_enter Tryd.func8, Tryd.ntmps8
      go_wp2_with (at_builtin; refine wp_appR Tryd.underlying26 rfl _ _ rfl w.heap.size (rs := []) (news := rs) rfl (ownR_zero (Blk.new rfl rfl) (Nat.le_refl _)) b off cap rfl (fun i hi => by have := (HCl.out i hi).up ((Up.refl w).alloc (.cells #[] 46)); rw [show rs.getD i rec0 = rs[i] by simp [hi]] at this; exact this) (by have := HL.out; simp; omega) (by simp) ?_; intro v1 w1 hO1 hg1)
      have hU1 : Up w w1 := up_below ((Up.refl w).alloc (.cells #[] 46)) (OwnR.below (ownR_zero (e := 46) (base := w.heap.size) (Blk.new rfl rfl) (Nat.le_refl _)) hg1 (by simp)) (Nat.le_refl _)
      rw [List.nil_append] at hO1
      go_wp2
      go_ret
      exact ⟨v1, rfl, hO1, hU1⟩
end Go.Proofs.YtkimojconidhlaaDoor
namespace Go.Proofs.YtkimojconidhlaaDoor
open Go.ChangeShapes Go.WideShapes Go.ChangeAt Go.RowKit Go.Sp Go.Joins

section
variable {H : Type} {enc : TypeId × Value → H} {P : Program}

theorem trodAll_later (hl : laidOutB P = true) {W W' : World} (hb : Below W.heap.size W W') : ∀ {ts : List TypeId} {vs : List Value} {ds : List (DataW H)} {ps : List MemPlace},
    ts.all (fun t => P.readableRec t && decide (t < P.types.size)) = true → (∀ x ∈ ps, x.block < W.heap.size) → DataW.TrodAll enc P W 0 (fun _ => true) true ts vs ds ps →
    DataW.TrodAll enc P W' 0 (fun b => decide (b < W.heap.size)) true ts vs ds ps
  | [], _, _, _, _, _, h => by
    obtain ⟨rfl, rfl, rfl⟩ := trodAll_nil h
    exact trodAll_mk0
  | t :: ts, _, _, _, hr, hlt, h => by
    obtain ⟨v, vs, d, ds, p, q, rfl, rfl, rfl, h1, h2⟩ := trodAll_cons h
    simp only [List.all_cons, Bool.and_eq_true, decide_eq_true_eq] at hr
    exact trodAll_cons_mk (Below.trod hl hr.1.1 hr.1.2 h1 hb (fun x hx => hlt x (List.mem_append_left _ hx)))
      (trodAll_later hl hb hr.2 (fun x hx => hlt x (List.mem_append_right _ hx)) h2)

/-- A law's post: true came back; nothing that was there has turned. -/
theorem law_shut {f : Func} {s : ChangeSpec} {T : TypeId} {W W' : World} {args : Array Value} {ds gs : List (DataW H)} {before : List MemPlace} (hb : P.underlying T = some .bool) (hr : f.resultTypes = #[T]) (hv : s.vars = [])
    (hs : s.fn H (ds ++ gs) = { results := [.lit (.bool true)], args := ds }) (hl : laidOutB P = true) (hpar : f.params.toList.all (fun t => P.readableRec t && decide (t < P.types.size)) = true)
    (hW : DataW.Whole enc P f.params.toList s.vars false W args.toList ds gs before) (hU : Below W.heap.size W W') : s.post enc P f false true false false W args (.bool true) W' := by
  have hlt := hW.lt
  have hW2 := hW
  obtain ⟨p, q, hA, hV, rfl, -, -⟩ := hW2
  rw [hv] at hV
  obtain ⟨rfl, rfl⟩ := trodVars_none hV
  rw [List.append_nil] at hlt
  refine ⟨ds, [], p ++ [], [], p, [], hW, ?_, ?_, ?_, Below.frame hU _, fun h => by cases h⟩
  · rw [hs, hr]
    exact trodAll_mk1 (shut_bool hb true)
  · rw [hs]
    exact trodAll_later hl hU hpar hlt hA
  · rw [hs, hv]
    rfl
end

theorem own : ownKnob Tryd.prog.godebug = none := by kernel_rfl
theorem laidOut : laidOutB Tryd.prog = true := by kernel_rfl
theorem gBases : Tryd.prog.globalNamed "specie/prime.bases" = some 1 := by kernel_rfl
theorem gBasesType : (Tryd.prog.globals[1]?).map (·.type) = some 147 := by kernel_rfl
theorem gTab : Tryd.prog.globalNamed "math/bits.deBruijn64tab" = some 3 := by kernel_rfl
theorem gTabType : (Tryd.prog.globals[3]?).map (·.type) = some 160 := by kernel_rfl
theorem cellsBases : Tryd.prog.cellsOf 147 = 12 := by kernel_rfl
theorem cellsTab : Tryd.prog.cellsOf 160 = 64 := by kernel_rfl
theorem cellsU64 : Tryd.prog.cellsOf 104 = 1 := by kernel_rfl
theorem cellsU8 : Tryd.prog.cellsOf 5 = 1 := by kernel_rfl
theorem cellsInt : Tryd.prog.cellsOf 3 = 1 := by kernel_rfl
theorem cellsGroup : Tryd.prog.cellsOf 23 = 3 := by kernel_rfl

/-- What each row lists. -/
abbrev laidTwo : List (String × DataW Unit) := [("math/bits.deBruijn64tab", Rows.laid_math_bits_deBruijn64tab), ("specie/prime.bases", Rows.laid_specie_prime_bases)]

theorem laid_tail {P : Program} {x : String × DataW Unit} {l : List (String × DataW Unit)} {w : World} (h : laidMet P (x :: l) w) : laidMet P l w := laidMet.tail h

theorem tab_of_laid {W : World} (h : laidMetH Tryd.prog laidTwo W) : Tab W := by
  have h0 : laidMet Tryd.prog laidTwo W := h
  have t1 : Lib.TabIs Tryd.prog W "math/bits.deBruijn64tab" .u8 (Lib.deBruijn64tab.map fun n : Nat => (n : Int)) :=
    Lib.tabIs_of_head (rest := [("specie/prime.bases", Rows.laid_specie_prime_bases)]) gTab gTabType Tryd.underlying160 Tryd.underlying5 cellsU8 cellsTab h0
  have t2 : Lib.TabIs Tryd.prog W "specie/prime.bases" .u64 baseList :=
    Lib.tabIs_of_head (rest := []) gBases gBasesType Tryd.underlying147 Tryd.underlying104 cellsU64 cellsBases (laid_tail h0)
  refine ⟨?_, fun i hi => ?_⟩
  · unfold Lib.TabIs World.var? at t2
    rw [gBases] at t2
    simp only [Option.bind_some] at t2
    split at t2
    · rename_i cs t fr hh
      simp only [Option.some.injEq] at t2
      exact ⟨t, fr, by rw [hh, t2]; rfl⟩
    · cases t2
  · have := t1.cell gTab i (by simpa [Lib.deBruijn64tab] using hi)
    rw [this]
    simp [List.getD_eq_getElem?_getD]
    cases h : Lib.deBruijn64tab[i]? <;> simp

set_option maxRecDepth 100000 in
/-- A group among the arguments: three numbers in their range. -/
theorem open_grp {H : Type} {enc : TypeId × Value → H} {r : Reach} {b0 base : Nat} {spare : Nat → Bool} {held : Bool} {w : World} {v : Value} {d : DataW H} {p : List MemPlace}
    (hv : Value.okWide Tryd.prog w r b0 23 v) (h : DataW.Trod enc Tryd.prog w base spare held 23 v d p) :
    ∃ P Q G : Int, v = grp P Q G ∧ (-9223372036854775808 ≤ P ∧ P ≤ 9223372036854775807) ∧ (-9223372036854775808 ≤ Q ∧ Q ≤ 9223372036854775807) ∧ (-9223372036854775808 ≤ G ∧ G ≤ 9223372036854775807) := by
  obtain ⟨c0, c1, c2, y0, y1, y2, m, rfl, rfl, rfl, hy0, hy1, hy2⟩ := open_agg3 Tryd.underlying23 (by kernel_rfl) cellsGroup hv h
  obtain ⟨a, e0, rfl, wa⟩ := DataW.trod_int Tryd.underlying3 hy0
  obtain ⟨b, e1, rfl, wb⟩ := DataW.trod_int Tryd.underlying3 hy1
  obtain ⟨c, e2, rfl, wc⟩ := DataW.trod_int Tryd.underlying3 hy2
  simp at e0 e1 e2
  subst e0 e1 e2
  exact ⟨a, b, c, rfl, bounds_i64 wa, bounds_i64 wb, bounds_i64 wc⟩

set_option maxRecDepth 100000 in
/-- An int among the arguments. -/
theorem open_i64 {H : Type} {enc : TypeId × Value → H} {r : Reach} {b0 base : Nat} {spare : Nat → Bool} {held : Bool} {w : World} {v : Value} {d : DataW H} {p : List MemPlace}
    (hv : Value.okWide Tryd.prog w r b0 3 v) (h : DataW.Trod enc Tryd.prog w base spare held 3 v d p) :
    ∃ x : Int, v = .int .i64 x ∧ -9223372036854775808 ≤ x ∧ x ≤ 9223372036854775807 := by
  obtain ⟨x, rfl, rfl, rfl, wx⟩ := open_int Tryd.underlying3 hv h
  exact ⟨x, rfl, (bounds_i64 wx).1, (bounds_i64 wx).2⟩
end Go.Proofs.YtkimojconidhlaaDoor
namespace Go.Proofs.YtkimojconidhlaaDoor
open Go.RowKit Go.Sp Go.Maps
set_option maxHeartbeats 2000000
set_option maxRecDepth 20000

theorem law3 : Keyed Tryd.prog 56 := Keyed.of_law (deep_law_laid laidOut (m := 2) (by omega) (of_decide_eq_true (by kernel_rfl)) (by kernel_rfl) (by rw [Tryd.underlying56]))

/-- A key. -/
abbrev k3 (a b c : Int) : Value := .agg #[.int .i64 a, .int .i64 b, .int .i64 c]
def I64 (a : Int) : Prop := -9223372036854775808 ≤ a ∧ a ≤ 9223372036854775807
theorem I64.wf {a : Int} (h : I64 a) : (Lit.int .i64 a).wf = true := by
  obtain ⟨h0, h1⟩ := h
  have a1 : IntKind.i64.min = -9223372036854775808 := by decide
  have a2 : IntKind.i64.max = 9223372036854775807 := by decide
  simp [Lit.wf, a1, a2]
  omega
def l3 (a b c : Int) : Lit := .string (keyBytes [.int .i64 a, .int .i64 b, .int .i64 c])

theorem lit_int {a : Int} (h : I64 a) (d : Nat) : Tryd.prog.keyLits (d + 1) 3 [.int .i64 a] = some [.int .i64 a] := by
  unfold Program.keyLits
  simp only [Tryd.underlying3]
  rw [if_pos ⟨trivial, h.wf⟩]
theorem key3 {a b c : Int} (ha : I64 a) (hb : I64 b) (hc : I64 c) : keyOf Tryd.prog 56 (k3 a b c) = some (l3 a b c) := by
  unfold keyOf
  simp only [Tryd.underlying56]
  have hk : Tryd.prog.keyType 56 = true := by kernel_rfl
  have hf : Value.formed Tryd.prog 56 (k3 a b c) = true := by
    simp only [Value.formed, Tryd.underlying56]
    kernel_rfl
  rw [if_pos (by rw [hk, hf]; rfl)]
  obtain ⟨d, hd⟩ : ∃ d, Tryd.prog.types.size + 1 = d + 2 := ⟨Tryd.prog.types.size - 1, by have : 1 ≤ Tryd.prog.types.size := of_decide_eq_true (by kernel_rfl); omega⟩
  rw [hd]
  have h1 : Tryd.prog.keyLits (d + 2) 56 (k3 a b c).cells.toList = some [.int .i64 a, .int .i64 b, .int .i64 c] := by
    unfold Program.keyLits
    simp only [Tryd.underlying56]
    have c3 : Tryd.prog.cellsOf 56 = 3 := by kernel_rfl
    have c1 : Tryd.prog.cellsOf 3 = 1 := by kernel_rfl
    rw [c3, c1]
    have e0 := lit_int ha d
    have e1 := lit_int hb d
    have e2 := lit_int hc d
    simp [Value.cells, List.range, List.range.loop, e0, e1, e2]
  rw [h1]
  rfl

theorem l3_inj {a b c a' b' c' : Int} (ha : I64 a) (hb : I64 b) (hc : I64 c) (ha' : I64 a') (hb' : I64 b') (hc' : I64 c') (h : l3 a b c = l3 a' b' c') : a = a' ∧ b = b' ∧ c = c' := by
  have h1 := key3 ha hb hc
  have h2 := key3 ha' hb' hc'
  rw [← h] at h2
  have := law3.inj h1 h2
  simp only [Value.agg.injEq, Array.mk.injEq, List.cons.injEq, Value.int.injEq, true_and, and_true] at this
  simpa using this

theorem plainElem_bool_inv {H : Type} {P : Program} {e : TypeId} (he : P.underlying e = some .bool) {v : Value} {z : DataW H × List MemPlace} (h : plainElem P e v = some z) : ∃ x, v = .bool x ∧ z = (.lit (.bool x), []) := by
  unfold plainElem at h
  rw [he] at h
  cases v <;> simp at h
  exact ⟨_, rfl, h.symm⟩

abbrev Tri := Int × Int × Int
/-- The block is a map of at most n entries, all true, at just these keys. -/
def SetAt (w : World) (b n : Nat) (S : List Tri) : Prop :=
  ∃ D : DataW Unit, w.ownsMap Tryd.prog 56 (plainElem Tryd.prog 4) b n D ∧ IsMap D ∧ ∀ x y z, I64 x → I64 y → I64 z → D.atKey (l3 x y z) (.lit (.bool false)) = .lit (.bool (S.contains (x, y, z)))

theorem SetAt.made (w : World) : SetAt (w.alloc (.map #[] 0)) w.heap.size 0 [] := ⟨_, World.ownsMap_made w _ _ _, isMap_empty, fun _ _ _ _ _ _ => rfl⟩
theorem SetAt.mono {w : World} {b n n' : Nat} {S : List Tri} (h : SetAt w b n S) (hn : n ≤ n') : SetAt w b n' S := by
  obtain ⟨D, h1, h2⟩ := h
  exact ⟨D, h1.mono hn, h2⟩
theorem SetAt.lt {w : World} {b n : Nat} {S : List Tri} (h : SetAt w b n S) : b < w.heap.size := by
  obtain ⟨D, h1, _⟩ := h
  exact h1.lt
theorem SetAt.kept {w w' : World} {b n : Nat} {S : List Tri} {row : Option Nat} (h : SetAt w b n S) (hg : w.grownBy w' row) (hne : some b ≠ row) : SetAt w' b n S := by
  obtain ⟨D, h1, h2⟩ := h
  exact ⟨D, h1.kept hg hne, h2⟩
theorem SetAt.up {w w' : World} {b n : Nat} {S : List Tri} (h : SetAt w b n S) (hU : Up w w') : SetAt w' b n S := by
  obtain ⟨D, ⟨es, clock, hb, F, hs, hD⟩, h2⟩ := h
  exact ⟨D, ⟨es, clock, (hU.block (Array.getElem?_eq_some_iff.1 hb).1).trans hb, F, hs, hD⟩, h2⟩

theorem zero_bool (w : World) : (zeroValue 4).run Tryd.prog w = .ok (.bool false) w := by kernel_rfl

theorem SetAt.look {w : World} {b n : Nat} {S : List Tri} (h : SetAt w b n S) {x y z : Int} (hx : I64 x) (hy : I64 y) (hz : I64 z) :
    (Instr.lookup 54 (.map (some b)) (k3 x y z) false).run Tryd.prog w = .ok (.bool (S.contains (x, y, z))) w := by
  obtain ⟨D, h1, _, h2⟩ := h
  obtain ⟨v, ps, hrun, hv⟩ := h1.lookup law3 Tryd.underlying54 (zero_bool w) (plainElem_bool Tryd.underlying4 false) (key3 hx hy hz)
  obtain ⟨c, rfl, hc⟩ := plainElem_bool_inv Tryd.underlying4 hv
  simp only [Prod.mk.injEq] at hc
  rw [h2 x y z hx hy hz] at hc
  have : S.contains (x, y, z) = c := by simpa using hc.1
  rw [hrun, this]

/-- 'm[k]', at the operation. -/
theorem wp_lookS {w : World} {ops : Array Oper} {rest : List Oper} {o : Oper} {a : Act} {Q : Exit → Act → World → Prop}
    (hg : o.guard = none) (m v : Operand) (hop : o.op = Op.lookup 54 m v false) (b n : Nat) (S : List Tri) (hm : a.eval m = .map (some b)) (hS : SetAt w b n S) (x y z : Int) (hx : I64 x) (hy : I64 y) (hz : I64 z) (hv : a.eval v = k3 x y z)
    (hK : wpList Tryd.prog ops Q rest (a.put o.dst (.bool (S.contains (x, y, z)))) w) : wpList Tryd.prog ops Q (o :: rest) a w := by
  refine wpList_plain hg fun K' hK' => ?_
  have hrun := hS.look hx hy hz
  generalize S.contains (x, y, z) = c at *
  unfold Oper.wp
  simp [execOp, hop, hm, hv, hrun, Result.andThen]
  exact hK' _ _ hK

/-- 'm[k] = true', at the operation. -/
theorem wp_putS {w : World} {ops : Array Oper} {rest : List Oper} {o : Oper} {a : Act} {Q : Exit → Act → World → Prop}
    (hg : o.guard = none) (m v t : Operand) (hop : o.op = Op.mapUpdate 54 m v t) (b n : Nat) (S : List Tri) (hm : a.eval m = .map (some b)) (hS : SetAt w b n S) (hn : n ≤ 1000000) (x y z : Int) (hx : I64 x) (hy : I64 y) (hz : I64 z) (hv : a.eval v = k3 x y z) (ht : a.eval t = .bool true)
    (hK : ∀ w', SetAt w' b (n + 1) ((x, y, z) :: S) → w.grownBy w' (some b) → wpList Tryd.prog ops Q rest (a.put o.dst undef) w') : wpList Tryd.prog ops Q (o :: rest) a w := by
  obtain ⟨D, h1, hM, h2⟩ := hS
  refine wpList_mapUpdate_own w hg m v t 54 hop 56 4 law3 Tryd.underlying54 (plainElem Tryd.prog 4) b n D hm h1 (by unfold maxLen; omega) (k3 x y z) (.bool true) (l3 x y z) hv ht (key3 hx hy hz) (.lit (.bool true)) [] (plainElem_bool Tryd.underlying4 true) fun w' h3 hg' => hK w' ⟨_, h3, hM.put _ _, fun p q r hp hq hr => ?_⟩ hg'
  by_cases he : (p, q, r) = (x, y, z)
  · simp only [Prod.mk.injEq] at he
    obtain ⟨rfl, rfl, rfl⟩ := he
    rw [atKey_put_same hM (law3.key (key3 hx hy hz))]
    simp
  · rw [atKey_put_other (fun e => he (by obtain ⟨rfl, rfl, rfl⟩ := l3_inj hp hq hr hx hy hz e; rfl)), h2 p q r hp hq hr]
    have : ((p, q, r) == (x, y, z)) = false := by simpa using he
    rw [List.contains_cons, this]
    rfl
end Go.Proofs.YtkimojconidhlaaDoor
namespace Go.Sp
open Go.RowKit

section
variable {P : Program} {ops : Array Oper} {Q : Exit → Act → World → Prop} {S : World → Prop} {last : Nat}

/-- What is to be shown of one operation that may come up. -/
def anyE_up (P : Program) (ops : Array Oper) (Q : Exit → Act → World → Prop) (S : World → Prop) (last n : Nat) (listed : Array Bool) (a : Act) (w : World) (i : Nat) : Prop :=
  ∃ o, ops[i]? = some o ∧ o.guard = none ∧ ∀ K : Act → World → Prop, Hid (∀ b u, (i = last ∨ S u) → anyE P ops Q S last n (listed.setIfInBounds i true) b u → K b u) → o.wp P a w K Q

theorem anyE_all {n : Nat} {listed : Array Bool} {a : Act} {w : World} (l : List Nat) (hr : Region.ready .any ops listed = l) (hl : l ≠ []) (h : ∀ i ∈ l, anyE_up P ops Q S last n listed a w i) : anyE P ops Q S last (n + 1) listed a w := by
  refine ⟨fun h0 => absurd (hr.symm.trans h0) hl, fun j hj => ?_⟩
  rw [hr] at hj
  obtain ⟨o, ho, hg, h⟩ := h j hj
  unfold wpOp
  simp only [ho]
  rw [if_pos (by simp [Region.wanted, hg])]
  exact .inl (h _ (hid fun b u hS k => ⟨hS, k⟩))

theorem anyE_two {n : Nat} {listed : Array Bool} {a : Act} {w : World} (i j : Nat) (hr : Region.ready .any ops listed = [i, j]) (hi : anyE_up P ops Q S last n listed a w i) (hj : anyE_up P ops Q S last n listed a w j) : anyE P ops Q S last (n + 1) listed a w :=
  anyE_all [i, j] hr (by simp) fun k hk => by
    simp only [List.mem_cons, List.not_mem_nil, or_false] at hk
    rcases hk with rfl | rfl
    · exact hi
    · exact hj
theorem anyE_three {n : Nat} {listed : Array Bool} {a : Act} {w : World} (i j k : Nat) (hr : Region.ready .any ops listed = [i, j, k]) (hi : anyE_up P ops Q S last n listed a w i) (hj : anyE_up P ops Q S last n listed a w j) (hk : anyE_up P ops Q S last n listed a w k) : anyE P ops Q S last (n + 1) listed a w :=
  anyE_all [i, j, k] hr (by simp) fun x hx => by
    simp only [List.mem_cons, List.not_mem_nil, or_false] at hx
    rcases hx with rfl | rfl | rfl
    · exact hi
    · exact hj
    · exact hk
/-- What yields under S may be taken first, where S holds behind every operation. -/
theorem anyE_takeA {i : Nat} {o : Oper} {v : Value} (d : Tmp) (ho : ops[i]? = some o) (hd : o.dst = some d) (hs : Region.noSelect ops = true) (hla : ops.size ≤ last) (hQ : ∀ c a w, Q (.panic c) (a.put (some d) v) w → Q (.panic c) a w) :
    ∀ {n : Nat} {listed : Array Bool} {a : Act} {w : World}, Region.free .any ops listed i = true → (Region.ready .any ops listed).contains i = true → YieldsIf P ops S o v a → S w →
      anyE P ops Q S last n (listed.setIfInBounds i true) (a.put (some d) v) w → anyE P ops Q S last (n + 1) listed a w := by
  rw [← hd] at hQ ⊢
  intro n
  have key : ∀ (n : Nat) (listed : Array Bool) (a : Act) (w : World), (∀ j oj, ops[j]? = some oj → j ≠ i → listed.getD j true = false → (∀ e ∈ oj.after, Region.binds .any e = true → e.on ≠ i) → o.apart ops oj = true) → i ∈ Region.ready .any ops listed → YieldsIf P ops S o v a → S w →
      anyE P ops Q S last n (listed.setIfInBounds i true) (a.put o.dst v) w → anyE P ops Q S last (n + 1) listed a w := by
    intro n
    induction n with
    | zero =>
      intro listed a w _ hr hy hS h
      refine ⟨fun h0 => absurd hr (by rw [h0]; simp), fun j hj => ?_⟩
      by_cases hji : j = i
      · subst hji
        exact hy.wpOp ho hS ⟨.inr hS, h⟩
      · exact absurd (ready_mono hj hji) (by rw [h.1]; simp)
    | succ n ih =>
      intro listed a w hf hr hy hS h
      refine ⟨fun h0 => absurd hr (by rw [h0]; simp), fun j hj => ?_⟩
      by_cases hji : j = i
      · subst hji
        exact hy.wpOp ho hS ⟨.inr hS, h⟩
      have hun := (mem_ready.1 hr).1
      obtain ⟨hju, oj, hoj, hall⟩ := mem_ready.1 hj
      have hjl : j ≠ last := fun hl => by
        have := (Array.getElem?_eq_some_iff.1 hoj).1
        omega
      have hno : ∀ e ∈ oj.after, Region.binds .any e = true → e.on ≠ i := fun e hm hb hx => by
        have := hall e hm hb
        rw [hx, unlisted hun] at this
        cases this
      have hstep := wpOp_putIf hoj (hf j oj hoj hji hju hno) (fun cs b => Region.noSelect_spec hs i o cs b ho) (fun cs b => Region.noSelect_spec hs j oj cs b hoj) hQ hy (h.2 j (ready_mono hj hji))
      refine wpOp_mono (fun b u k => ?_) hstep
      obtain ⟨hy2, hSu, hrest⟩ := k
      have hSu' : S u := by
        rcases hSu with hSu | hSu
        · exact absurd hSu hjl
        · exact hSu
      refine ⟨.inr hSu', ih _ b u (fun k ok hk hki hku hkn => hf k ok hk hki ?_ hkn) (ready_mono hr (Ne.symm hji)) hy2 hSu' ?_⟩
      · by_cases hjk : j = k
        · subst hjk; exact hju
        · rw [getD_set_ne true hjk] at hku; exact hku
      · rw [Array.setIfInBounds_comm _ _ hji]
        exact hrest
  intro listed a w hf hr hy hS h
  exact key n listed a w (fun j oj h1 h2 h3 h4 => Region.free_spec ho hf j oj h1 h2 h3 h4) (by simpa using hr) hy hS h

end
end Go.Sp
namespace Go.Sp
open Go.RowKit
theorem anyE_oneG {P : Program} {ops : Array Oper} {Q : Exit → Act → World → Prop} {S : World → Prop} {last : Nat} {i : Nat} {o : Oper} {n : Nat} {listed : Array Bool} {a : Act} {w : World} (ho : ops[i]? = some o) (hr : Region.ready .any ops listed = [i]) (hg : Region.wanted o (yielded ops a.tmps) = true)
    (h : ∀ K : Act → World → Prop, Hid (∀ b u, (i = last ∨ S u) → anyE P ops Q S last n (listed.setIfInBounds i true) b u → K b u) → o.wp P a w K Q) : anyE P ops Q S last (n + 1) listed a w := by
  refine ⟨fun h0 => (by rw [hr] at h0; cases h0), fun j hj => ?_⟩
  rw [hr] at hj
  obtain rfl : j = i := by simpa using hj
  unfold wpOp
  simp only [ho]
  rw [if_pos hg]
  exact .inl (h _ (hid fun b u hS k => ⟨hS, k⟩))
end Go.Sp
