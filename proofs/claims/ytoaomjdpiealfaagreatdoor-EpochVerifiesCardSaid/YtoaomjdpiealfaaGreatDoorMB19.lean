/- Slices of integers of the call's own: what an append leaves. Records that a call makes; slices.Clone of records. A map that a call makes, keyed by three numbers: the set of what was put into it. Slices of records, and signed lists, among the arguments. Package draw: plain laws of numbers, and of lists of them. -/
import Derived.Test.YtoaomjdpiealfaaGreatDoorMB4
import Derived.Test.YtoaomjdpiealfaaGreatDoorMB3
import Derived.Test.YtoaomjdpiealfaaGreatDoorMB18
import Derived.Test.YtoaomjdpiealfaaGreatDoorMB6
import Derived.Test.YtoaomjdpiealfaaGreatDoorMB8
import Derived.Test.YtoaomjdpiealfaaGreatDoorMB16
import Derived.Lib.SliceRun
import Derived.Maps.OwnOps
import Derived.Maps.Views
import Derived.DeepKeys4
import Derived.Deep.SlicePairs
namespace Go.Proofs.YtoaomjdpiealfaaGreatDoor
open Go.RowKit Go.Sp

theorem OwnI.shape {w : World} {base : Nat} {v : Value} {xs : List Int} (h : OwnI w base v xs) : ∃ p cap, v = .slice p xs.length cap := by
  rcases h.2 with ⟨hv, hn⟩ | ⟨g, cap, cur, rfl, _⟩
  · exact ⟨none, 0, by rw [hv, hn]⟩
  · exact ⟨_, cap, rfl⟩

theorem OwnI.block {w : World} {base : Nat} {v : Value} {xs : List Int} (h : OwnI w base v xs) (k : Nat) (hk : v.ownBlock = some k) : base ≤ k := by
  rcases h.2 with ⟨hv, _⟩ | ⟨g, cap, cur, rfl, hb, _⟩
  · rw [hv] at hk; cases hk
  · simp [Value.ownBlock] at hk; omega

theorem GrpAt.below {w w' : World} {B b : Nat} {P Q G : Int} (h : GrpAt w b P Q G) (hb : b < B) (hU : Below B w w') : GrpAt w' b P Q G := by
  obtain ⟨q0, q1, q2⟩ := h
  exact ⟨by rw [hU.cell hb]; exact q0, by rw [hU.cell hb]; exact q1, by rw [hU.cell hb]; exact q2⟩

/-- What an append of one number to a list of one's own leaves. -/
theorem appended {w w1 w2 : World} {base n : Nat} {v v' : Value} {xs : List Int} {x : Int} {o : Obj} (hl : xs.length = n) (h : OwnI w1 base v xs) (hown : w2.ownsRow base 3 1 v' (n + 1) (xs.map (Value.int .i64) ++ [Value.int .i64 x])) (hgr : (w1.alloc o).grownBy w2 v.ownBlock) (hU : Up w w1) (hw : w.heap.size ≤ base) (hb : base ≤ w1.heap.size) :
    OwnI w2 base v' (xs ++ [x]) ∧ Up w w2 ∧ Below base w1 w2 := by
  refine ⟨?_, up_grown (hU.alloc _) hgr fun k hk => Nat.le_trans hw (h.block k hk), Below.grown (Below.alloc (Below.refl base w1) hb o) hgr (by simp; omega) fun k hk => h.block k hk⟩
  unfold OwnI
  rw [List.length_append, hl, List.map_append]
  exact hown

theorem OwnI.row {w : World} {base n : Nat} {v : Value} {xs : List Int} (h : OwnI w base v xs) (hl : xs.length = n) : w.ownsRow base 3 1 v n (xs.map (Value.int .i64)) := by
  subst hl
  exact h

theorem OwnI.slice {w : World} {base : Nat} {v : Value} {xs : List Int} (h : OwnI w base v xs) : ∃ p n cap, v = .slice p n cap := by
  obtain ⟨p, cap, hv⟩ := h.shape
  exact ⟨p, _, cap, hv⟩
end Go.Proofs.YtoaomjdpiealfaaGreatDoor
namespace Go.Proofs.YtoaomjdpiealfaaGreatDoor
open Go.RowKit Go.Sp
set_option maxHeartbeats 4000000
set_option maxRecDepth 20000

theorem recCells_at (rs : List Rec) (i j : Nat) (h : i < rs.length) (hj : j < 11) : (rs.flatMap Rec.cells)[i * 11 + j]? = (rs[i].cells)[j]? := by
  induction rs generalizing i with
  | nil => simp at h
  | cons q rs ih =>
    rw [List.flatMap_cons]
    have hl : q.cells.length = 11 := rfl
    cases i with
    | zero =>
      rw [List.getElem?_append_left (by omega)]
      simp
    | succ i =>
      rw [List.getElem?_append_right (by omega), hl, show (i + 1) * 11 + j - 11 = i * 11 + j by omega, ih i (by simpa using h)]
      simp
theorem recCells_length (rs : List Rec) : (rs.flatMap Rec.cells).length = rs.length * 11 := by
  induction rs with
  | nil => rfl
  | cons q rs ih =>
    rw [List.flatMap_cons, List.length_append, ih, List.length_cons]
    have hl : q.cells.length = 11 := rfl
    omega
theorem RecAt.cell {w : World} {b o : Nat} {r : Rec} (h : RecAt w b o r) {k : Nat} (hk : k < 11) : w.cell? ⟨b, o + k, none⟩ = r.cells[k]? := by
  obtain ⟨h0, h1, h2, h3, h4, h5, h6, h7, h8, h9, h10⟩ := h
  rcases eleven hk with rfl | rfl | rfl | rfl | rfl | rfl | rfl | rfl | rfl | rfl | rfl
  · exact h0
  · exact h1
  · exact h2
  · exact h3
  · exact h4
  · exact h5
  · exact h6
  · exact h7
  · exact h8
  · exact h9
  · exact h10
theorem RecAt.of {w : World} {b o : Nat} {r : Rec} (h : ∀ k, k < 11 → w.cell? ⟨b, o + k, none⟩ = r.cells[k]?) : RecAt w b o r :=
  ⟨h 0 (by omega), h 1 (by omega), h 2 (by omega), h 3 (by omega), h 4 (by omega), h 5 (by omega), h 6 (by omega), h 7 (by omega), h 8 (by omega), h 9 (by omega), h 10 (by omega)⟩

/-- Records of the call's own. -/
def OwnR (e : TypeId) (w : World) (base : Nat) (v : Value) (rs : List Rec) : Prop := w.ownsRow base e 11 v rs.length (rs.flatMap Rec.cells)
theorem ownR_none {e : TypeId} {w : World} {base : Nat} : OwnR e w base nilS [] := ⟨by simp, .inl ⟨rfl, rfl⟩⟩
theorem ownR_zero {e : TypeId} {w : World} {base g : Nat} (h : Blk w g e #[]) (hb : base ≤ g) : OwnR e w base (.slice (some ⟨g, 0, none⟩) 0 0) [] := ⟨by simp, .inr ⟨g, 0, #[], rfl, hb, h, by simp, by unfold maxLen; omega, by simp, by simp⟩⟩
theorem OwnR.up {e : TypeId} {w w' : World} {base : Nat} {v : Value} {rs : List Rec} (h : OwnR e w base v rs) (hU : Up w w') : OwnR e w' base v rs := ownsRow_later h hU
theorem OwnR.shape {e : TypeId} {w : World} {base : Nat} {v : Value} {rs : List Rec} (h : OwnR e w base v rs) : ∃ a c, v = .slice a rs.length c := by
  rcases h.2 with ⟨hv, hn⟩ | ⟨g, cap, cur, rfl, _⟩
  · exact ⟨none, 0, by rw [hv, hn]⟩
  · exact ⟨_, _, rfl⟩
theorem OwnR.block {e : TypeId} {w : World} {base : Nat} {v : Value} {rs : List Rec} (h : OwnR e w base v rs) (j : Nat) (hj : v.ownBlock = some j) : base ≤ j := by
  rcases h.2 with ⟨hv, _⟩ | ⟨g, cap, cur, rfl, hb, _⟩
  · rw [hv] at hj; cases hj
  · simp [Value.ownBlock] at hj; omega
theorem OwnR.below {e : TypeId} {w w' : World} {base : Nat} {v : Value} {rs : List Rec} (h : OwnR e w base v rs) (hg : w.grownBy w' v.ownBlock) (hb : base ≤ w.heap.size) : Below base w w' := Below.grown (Below.refl base w) hg hb fun j hj => h.block j hj
theorem OwnR.mono {e : TypeId} {w : World} {base base' : Nat} {v : Value} {rs : List Rec} (h : OwnR e w base v rs) (hb : base' ≤ base) : OwnR e w base' v rs := by
  rcases h.2 with ⟨hv, hn⟩ | ⟨g, cap, cur, rfl, h1, h2⟩
  · exact ⟨h.1, .inl ⟨hv, hn⟩⟩
  · exact ⟨h.1, .inr ⟨g, cap, cur, rfl, by omega, h2⟩⟩
theorem OwnR.recs {e : TypeId} {w : World} {base : Nat} {v : Value} {rs : List Rec} (h : OwnR e w base v rs) : RecsAt w v rs := by
  have hh := h
  rcases h.2 with ⟨hv, hn⟩ | ⟨g, cap, cur, rfl, hb, hg, hn, hm, hs, ht⟩
  · exact ⟨by omega, none, 0, by rw [hv, hn], fun hne => absurd (List.eq_nil_of_length_eq_zero hn) hne⟩
  · refine ⟨by unfold maxLen at hm; omega, _, cap, rfl, fun _ => ⟨g, 0, rfl, fun i hi => RecAt.of fun k hk => ?_⟩⟩
    rw [Nat.zero_add, show rs.getD i rec0 = rs[i] by simp [hi], ← recCells_at rs i k hi hk]
    exact World.ownsRow.cellAt hh (i * 11 + k) (by omega)
theorem infoKR : (Tryz.prog.info? 112).map (fun i => (i.zero, i.size, i.bytes)) = some (some (epo 0 0 0 0 0 0 0 0 0 0 0), 11, 88) := by kernel_rfl

/-- append(l, more...) onto the call's own records: at the operation of a walk. -/
theorem wp_appR {t : TypeId} (ht : Tryz.prog.underlying t = some (.slice 112))
    {ops : Array Oper} {rest : List Oper} {o : Oper} {a : Act} {w : World} {Q : Exit → Act → World → Prop} (hgd : o.guard = none) (s x : Operand)
    (ho : o.op = .call { callee := .builtin .append, args := #[s, x], argTypes := #[t, t] })
    (base : Nat) {v : Value} {rs news : List Rec} (hs : a.eval s = v) (hown : OwnR 112 w base v rs) (g off c : Nat) (hx : a.eval x = .slice (some ⟨g, off, none⟩) news.length c)
    (hblk : ∀ i (h : i < news.length), RecAt w g (off + i * 11) news[i])
    (hroom : rs.length + news.length ≤ 1000000) (hbase : base ≤ w.heap.size)
    (h : ∀ v' w', OwnR 112 w' base v' (rs ++ news) → w.grownBy w' v.ownBlock → wpList Tryz.prog ops Q rest (a.put o.dst v') w') : wpList Tryz.prog ops Q (o :: rest) a w := by
  obtain ⟨i0, hi, hz0, hz1, hz2⟩ := info_parts infoKR
  refine wpList_append_own w hgd s x t ho base 112 i0 _ 11 88 ht hi hz0 hz1 hz2 rfl (by decide) v rs.length _ hs hown ⟨g, off, none⟩ news.length c (news.flatMap Rec.cells) hx (recCells_length _) (fun j u hj => ?_) (fun u hu => ?_) (by unfold maxLen; omega) (by omega) hbase fun v' w' h1 h2 _ => h v' w' (by
        unfold OwnR
        rw [List.length_append, List.flatMap_append]
        exact h1) h2
  · have hj2 : j < news.length * 11 := by
      have := (List.getElem?_eq_some_iff.1 hj).1
      rw [recCells_length] at this
      exact this
    have h1 := (hblk (j / 11) (by omega)).cell (k := j % 11) (by omega)
    have hq := recCells_at news (j / 11) (j % 11) (by omega) (by omega)
    rw [show j / 11 * 11 + j % 11 = j by omega, hj] at hq
    rw [Addr.add_lit, show off + j = off + j / 11 * 11 + j % 11 by omega, h1]
    exact hq.symm
  · obtain ⟨r, _, hu⟩ := List.mem_flatMap.1 hu
    simp only [Rec.cells, List.mem_cons, List.not_mem_nil, or_false] at hu
    rcases hu with rfl | rfl | rfl | rfl | rfl | rfl | rfl | rfl | rfl | rfl | rfl <;> rfl

/-- Nil, or a slice with an address. -/
def NilOr (v : Value) : Prop := v = nilS ∨ ∃ a n c, v = .slice (some a) n c
theorem OwnR.nilOr {e : TypeId} {w : World} {base : Nat} {v : Value} {rs : List Rec} (h : OwnR e w base v rs) : NilOr v := by
  rcases h.2 with ⟨hv, hn⟩ | ⟨g, cap, cur, rfl, _⟩
  · exact .inl hv
  · exact .inr ⟨_, _, _, rfl⟩

end Go.Proofs.YtoaomjdpiealfaaGreatDoor
namespace Go.Proofs.YtoaomjdpiealfaaGreatDoor
open Go.RowKit Go.Sp Go.Maps
set_option maxHeartbeats 2000000
set_option maxRecDepth 20000

theorem law3 : Keyed Tryz.prog 167 := Keyed.of_law (deep_law_laid laidOut (m := 2) (by omega) (of_decide_eq_true (by kernel_rfl)) (by kernel_rfl) (by rw [Tryz.underlying167]))

/-- A key. -/
abbrev k3 (a b c : Int) : Value := .agg #[.int .i64 a, .int .i64 b, .int .i64 c]
def I64 (a : Int) : Prop := -9223372036854775808 ≤ a ∧ a ≤ 9223372036854775807
theorem I64.wf {a : Int} (h : I64 a) : (Lit.int .i64 a).wf = true := by
  obtain ⟨h0, h1⟩ := h
  have a1 : IntKind.i64.min = -9223372036854775808 := by decide
  have a2 : IntKind.i64.max = 9223372036854775807 := by decide
  simp [Lit.wf, a1, a2]
  omega
def l3 (a b c : Int) : Lit := .string (keyBytes [.int .i64 a, .int .i64 b, .int .i64 c])

theorem lit_int {a : Int} (h : I64 a) (d : Nat) : Tryz.prog.keyLits (d + 1) 3 [.int .i64 a] = some [.int .i64 a] := by
  unfold Program.keyLits
  simp only [Tryz.underlying3]
  rw [if_pos ⟨trivial, h.wf⟩]
theorem key3 {a b c : Int} (ha : I64 a) (hb : I64 b) (hc : I64 c) : keyOf Tryz.prog 167 (k3 a b c) = some (l3 a b c) := by
  unfold keyOf
  simp only [Tryz.underlying167]
  have hk : Tryz.prog.keyType 167 = true := by kernel_rfl
  have hf : Value.formed Tryz.prog 167 (k3 a b c) = true := by
    simp only [Value.formed, Tryz.underlying167]
    kernel_rfl
  rw [if_pos (by rw [hk, hf]; rfl)]
  obtain ⟨d, hd⟩ : ∃ d, Tryz.prog.types.size + 1 = d + 2 := ⟨Tryz.prog.types.size - 1, by have : 1 ≤ Tryz.prog.types.size := of_decide_eq_true (by kernel_rfl); omega⟩
  rw [hd]
  have h1 : Tryz.prog.keyLits (d + 2) 167 (k3 a b c).cells.toList = some [.int .i64 a, .int .i64 b, .int .i64 c] := by
    unfold Program.keyLits
    simp only [Tryz.underlying167]
    have c3 : Tryz.prog.cellsOf 167 = 3 := by kernel_rfl
    have c1 : Tryz.prog.cellsOf 3 = 1 := by kernel_rfl
    rw [c3, c1]
    have e0 := lit_int ha d
    have e1 := lit_int hb d
    have e2 := lit_int hc d
    simp [Value.cells, List.range, List.range.loop, e0, e1, e2]
  rw [h1]
  rfl

theorem l3_inj {a b c a' b' c' : Int} (ha : I64 a) (hb : I64 b) (hc : I64 c) (ha' : I64 a') (hb' : I64 b') (hc' : I64 c') (h : l3 a b c = l3 a' b' c') : a = a' ∧ b = b' ∧ c = c' := by
  have h1 := key3 ha hb hc
  have h2 := key3 ha' hb' hc'
  rw [← h] at h2
  have := law3.inj h1 h2
  simp only [Value.agg.injEq, Array.mk.injEq, List.cons.injEq, Value.int.injEq, true_and, and_true] at this
  simpa using this

theorem plainElem_bool_inv {H : Type} {P : Program} {e : TypeId} (he : P.underlying e = some .bool) {v : Value} {z : DataW H × List MemPlace} (h : plainElem P e v = some z) : ∃ x, v = .bool x ∧ z = (.lit (.bool x), []) := by
  unfold plainElem at h
  rw [he] at h
  cases v <;> simp at h
  exact ⟨_, rfl, h.symm⟩

abbrev Tri := Int × Int × Int
/-- The block is a map of at most n entries, all true, at just these keys. -/
def SetAt (w : World) (b n : Nat) (S : List Tri) : Prop :=
  ∃ D : DataW Unit, w.ownsMap Tryz.prog 167 (plainElem Tryz.prog 4) b n D ∧ IsMap D ∧ ∀ x y z, I64 x → I64 y → I64 z → D.atKey (l3 x y z) (.lit (.bool false)) = .lit (.bool (S.contains (x, y, z)))

theorem SetAt.made (w : World) : SetAt (w.alloc (.map #[] 0)) w.heap.size 0 [] := ⟨_, World.ownsMap_made w _ _ _, isMap_empty, fun _ _ _ _ _ _ => rfl⟩
theorem SetAt.mono {w : World} {b n n' : Nat} {S : List Tri} (h : SetAt w b n S) (hn : n ≤ n') : SetAt w b n' S := by
  obtain ⟨D, h1, h2⟩ := h
  exact ⟨D, h1.mono hn, h2⟩
theorem SetAt.lt {w : World} {b n : Nat} {S : List Tri} (h : SetAt w b n S) : b < w.heap.size := by
  obtain ⟨D, h1, _⟩ := h
  exact h1.lt
theorem SetAt.kept {w w' : World} {b n : Nat} {S : List Tri} {row : Option Nat} (h : SetAt w b n S) (hg : w.grownBy w' row) (hne : some b ≠ row) : SetAt w' b n S := by
  obtain ⟨D, h1, h2⟩ := h
  exact ⟨D, h1.kept hg hne, h2⟩
theorem SetAt.up {w w' : World} {b n : Nat} {S : List Tri} (h : SetAt w b n S) (hU : Up w w') : SetAt w' b n S := by
  obtain ⟨D, ⟨es, clock, hb, F, hs, hD⟩, h2⟩ := h
  exact ⟨D, ⟨es, clock, (hU.block (Array.getElem?_eq_some_iff.1 hb).1).trans hb, F, hs, hD⟩, h2⟩

theorem zero_bool (w : World) : (zeroValue 4).run Tryz.prog w = .ok (.bool false) w := by kernel_rfl

theorem SetAt.look {w : World} {b n : Nat} {S : List Tri} (h : SetAt w b n S) {x y z : Int} (hx : I64 x) (hy : I64 y) (hz : I64 z) :
    (Instr.lookup 166 (.map (some b)) (k3 x y z) false).run Tryz.prog w = .ok (.bool (S.contains (x, y, z))) w := by
  obtain ⟨D, h1, _, h2⟩ := h
  obtain ⟨v, ps, hrun, hv⟩ := h1.lookup law3 Tryz.underlying166 (zero_bool w) (plainElem_bool Tryz.underlying4 false) (key3 hx hy hz)
  obtain ⟨c, rfl, hc⟩ := plainElem_bool_inv Tryz.underlying4 hv
  simp only [Prod.mk.injEq] at hc
  rw [h2 x y z hx hy hz] at hc
  have : S.contains (x, y, z) = c := by simpa using hc.1
  rw [hrun, this]

/-- 'm[k]', at the operation. -/
theorem wp_lookS {w : World} {ops : Array Oper} {rest : List Oper} {o : Oper} {a : Act} {Q : Exit → Act → World → Prop}
    (hg : o.guard = none) (m v : Operand) (hop : o.op = Op.lookup 166 m v false) (b n : Nat) (S : List Tri) (hm : a.eval m = .map (some b)) (hS : SetAt w b n S) (x y z : Int) (hx : I64 x) (hy : I64 y) (hz : I64 z) (hv : a.eval v = k3 x y z)
    (hK : wpList Tryz.prog ops Q rest (a.put o.dst (.bool (S.contains (x, y, z)))) w) : wpList Tryz.prog ops Q (o :: rest) a w := by
  refine wpList_plain hg fun K' hK' => ?_
  have hrun := hS.look hx hy hz
  generalize S.contains (x, y, z) = c at *
  unfold Oper.wp
  simp [execOp, hop, hm, hv, hrun, Result.andThen]
  exact hK' _ _ hK

/-- 'm[k] = true', at the operation. -/
theorem wp_putS {w : World} {ops : Array Oper} {rest : List Oper} {o : Oper} {a : Act} {Q : Exit → Act → World → Prop}
    (hg : o.guard = none) (m v t : Operand) (hop : o.op = Op.mapUpdate 166 m v t) (b n : Nat) (S : List Tri) (hm : a.eval m = .map (some b)) (hS : SetAt w b n S) (hn : n ≤ 1000000) (x y z : Int) (hx : I64 x) (hy : I64 y) (hz : I64 z) (hv : a.eval v = k3 x y z) (ht : a.eval t = .bool true)
    (hK : ∀ w', SetAt w' b (n + 1) ((x, y, z) :: S) → w.grownBy w' (some b) → wpList Tryz.prog ops Q rest (a.put o.dst undef) w') : wpList Tryz.prog ops Q (o :: rest) a w := by
  obtain ⟨D, h1, hM, h2⟩ := hS
  refine wpList_mapUpdate_own w hg m v t 166 hop 167 4 law3 Tryz.underlying166 (plainElem Tryz.prog 4) b n D hm h1 (by unfold maxLen; omega) (k3 x y z) (.bool true) (l3 x y z) hv ht (key3 hx hy hz) (.lit (.bool true)) [] (plainElem_bool Tryz.underlying4 true) fun w' h3 hg' => hK w' ⟨_, h3, hM.put _ _, fun p q r hp hq hr => ?_⟩ hg'
  by_cases he : (p, q, r) = (x, y, z)
  · simp only [Prod.mk.injEq] at he
    obtain ⟨rfl, rfl, rfl⟩ := he
    rw [atKey_put_same hM (law3.key (key3 hx hy hz))]
    simp
  · rw [atKey_put_other (fun e => he (by obtain ⟨rfl, rfl, rfl⟩ := l3_inj hp hq hr hx hy hz e; rfl)), h2 p q r hp hq hr]
    have : ((p, q, r) == (x, y, z)) = false := by simpa using he
    rw [List.contains_cons, this]
    rfl
end Go.Proofs.YtoaomjdpiealfaaGreatDoor
namespace Go.Proofs.YtoaomjdpiealfaaGreatDoor
open Go.ChangeShapes Go.WideShapes Go.ChangeAt Go.RowKit Go.Sp Go.Joins Go.Deep
set_option maxHeartbeats 2000000

/-- A record whose three numbers are those of an int. -/
def RecI (r : Rec) : Prop := I64 r.kd ∧ I64 r.nr ∧ I64 r.co
theorem cellsKey : Tryz.prog.cellsOf 51 = 3 := by kernel_rfl
theorem cellsRec : Tryz.prog.cellsOf 112 = 11 := by kernel_rfl
theorem open_rec {H : Type} {enc : TypeId × Value → H} {base n : Nat} {spare : Nat → Bool} {held : Bool} {w : World} {cs : List Value} {x : DataW H × List MemPlace} (hl : cs.length = 11) (h : DataW.trod enc Tryz.prog w base spare held n 112 cs = some x) :
    ∃ r : Rec, cs = r.cells ∧ RecI r := by
  match cs, hl with
  | [c0, c1, c2, c3, c4, c5, c6, c7, c8, c9, c10], _ =>
    obtain ⟨xs, n, _, hx, _, hlen, hg⟩ := DataW.trod_struct Tryz.underlying112 h
    match xs, hlen with
    | [y0, y1, y2, y3, y4, y5, y6, y7, y8], _ =>
      have f0 := hg 0 _ rfl
      have f1 := hg 1 _ rfl
      have f2 := hg 2 _ rfl
      have f3 := hg 3 _ rfl
      have f4 := hg 4 _ rfl
      have f5 := hg 5 _ rfl
      have f6 := hg 6 _ rfl
      have f7 := hg 7 _ rfl
      have f8 := hg 8 _ rfl
      simp [cellsKey, cellsInt] at f0 f1 f2 f3 f4 f5 f6 f7 f8
      obtain ⟨zs, m, _, hz, _, hzl, hzg⟩ := DataW.trod_struct Tryz.underlying51 f5
      match zs, hzl with
      | [z0, z1, z2], _ =>
        have e0 := hzg 0 _ rfl
        have e1 := hzg 1 _ rfl
        have e2 := hzg 2 _ rfl
        simp [cellsInt] at e0 e1 e2
        obtain ⟨q0, h0, rfl, w0⟩ := DataW.trod_int Tryz.underlying3 f0
        obtain ⟨q1, h1, rfl, w1⟩ := DataW.trod_int Tryz.underlying3 f1
        obtain ⟨q2, h2, rfl, w2⟩ := DataW.trod_int Tryz.underlying3 f2
        obtain ⟨q3, h3, rfl, w3⟩ := DataW.trod_int Tryz.underlying3 f3
        obtain ⟨q4, h4, rfl, w4⟩ := DataW.trod_int Tryz.underlying3 f4
        obtain ⟨q5, h5, rfl, w5⟩ := DataW.trod_int Tryz.underlying3 e0
        obtain ⟨q6, h6, rfl, w6⟩ := DataW.trod_int Tryz.underlying3 e1
        obtain ⟨q7, h7, rfl, w7⟩ := DataW.trod_int Tryz.underlying3 e2
        obtain ⟨q8, h8, rfl, w8⟩ := DataW.trod_int Tryz.underlying3 f6
        obtain ⟨q9, h9, rfl, w9⟩ := DataW.trod_int Tryz.underlying3 f7
        obtain ⟨q10, h10, rfl, w10⟩ := DataW.trod_int Tryz.underlying3 f8
        simp at h0 h1 h2 h3 h4 h5 h6 h7 h8 h9 h10
        subst h0 h1 h2 h3 h4 h5 h6 h7 h8 h9 h10
        exact ⟨⟨q0, q1, q2, q3, q4, q5, q6, q7, q8, q9, q10⟩, rfl, bounds_i64 w0, bounds_i64 w1, bounds_i64 w2⟩

theorem recs_open {H : Type} {enc : TypeId × Value → H} {base fuel : Nat} {w : World} {v : Value} {x : DataW H × List MemPlace} (hs : ∃ a len cap, v = .slice a len cap) (hf : DataW.trod enc Tryz.prog w base (fun _ => true) true fuel 69 [v] = some x) :
    ∃ l : List Rec, RecsAt w v l ∧ NilOr v ∧ ∀ r ∈ l, RecI r := by
  obtain ⟨a1, len, cap, rfl⟩ := hs
  rcases open_slice Tryz.underlying69 hf with ⟨hcs, hx⟩ | ⟨a, len', cap', m, n, D, Pl, hcs, _, hl, hm, hmm, hx, hrow⟩
  · simp at hcs
    obtain ⟨rfl, rfl, rfl⟩ := hcs
    exact ⟨[], ⟨by simp, none, 0, rfl, fun h => absurd rfl h⟩, .inl rfl, fun r hr => by cases hr⟩
  · simp at hcs
    obtain ⟨rfl, rfl, rfl⟩ := hcs
    simp only [if_true] at hmm
    subst hmm
    unfold maxLen at hm
    have each : ∀ i, i < len → ∃ r : Rec, RecI r ∧ ∀ k, k < 11 → w.cell? (a.add (i * 11 + k)) = r.cells[k]? := by
      intro i hi
      obtain ⟨cs', h1, h2⟩ := hrow i (by omega)
      rw [cellsRec] at h1
      obtain ⟨_, hlen, hcell⟩ := World.cells?_some h1
      obtain ⟨r, rfl, hr⟩ := open_rec hlen h2
      refine ⟨r, hr, fun k hk => ?_⟩
      have := hcell k hk
      rw [add_add] at this
      exact this
    have : Inhabited Rec := ⟨rec0⟩
    obtain ⟨f, hfr⟩ := choose_lt each
    have hlen : ((List.range len).map f).length = len := by simp
    refine ⟨(List.range len).map f, ⟨by omega, some a, m, by rw [hlen], fun hne => ?_⟩, .inr ⟨a, _, _, rfl⟩, fun r hr => ?_⟩
    · have h0 : 0 < len := by
        refine Nat.pos_of_ne_zero fun e => hne ?_
        subst e; rfl
      obtain ⟨ab, ao, spot⟩ := a
      have hspot : spot = none := by
        have := (hfr 0 h0).2 0 (by omega)
        simpa [Addr.add] using World.cell?_spot this
      subst hspot
      refine ⟨ab, ao, rfl, fun i hi => ?_⟩
      rw [hlen] at hi
      have hq := (hfr i hi).2
      rw [show ((List.range len).map f).getD i rec0 = f i by simp [hi]]
      refine RecAt.of fun k hk => ?_
      have := hq k hk
      rw [Addr.add_lit] at this
      rw [Nat.add_assoc]
      exact this
    · obtain ⟨i, hi, rfl⟩ := List.mem_map.1 hr
      exact (hfr i (List.mem_range.1 hi)).1

set_option maxRecDepth 100000 in
theorem open_recs {H : Type} {enc : TypeId × Value → H} {b0 base : Nat} {w : World} {v : Value} {d : DataW H} {p : List MemPlace}
    (hv : Value.okWide Tryz.prog w .any b0 69 v) (h : DataW.Trod enc Tryz.prog w base (fun _ => true) true 69 v d p) :
    ∃ l : List Rec, RecsAt w v l ∧ NilOr v ∧ ∀ r ∈ l, RecI r := by
  obtain ⟨a1, len, cap, rfl⟩ := okWide_slice Tryz.underlying69 hv
  obtain ⟨fuel, hf⟩ := h
  exact recs_open ⟨a1, len, cap, rfl⟩ (by simpa [Value.cells] using hf)
end Go.Proofs.YtoaomjdpiealfaaGreatDoor
namespace Go.Proofs.YtoaomjdpiealfaaGreatDoor
open Go.RowKit Go.Sp

/-- A number that was drawn is in its range. -/
theorem numT_in {h : Nat → Int} {q : Int} (q0 : 1 ≤ q) : ∀ (n : Nat) (c x : Int), (numT h q n c x).2.2 = false → 0 ≤ (numT h q n c x).1 ∧ (numT h q n c x).1 < q
  | 0, c, x, _ => ⟨Int.emod_nonneg _ (by omega), Int.emod_lt_of_pos _ (by omega)⟩
  | n + 1, c, x, hf => by
    by_cases hc : c = 1099511627776
    · rw [numT, if_pos hc] at hf
      cases hf
    · rw [numT, if_neg hc] at hf ⊢
      by_cases hy : firK (shaB (posL h c)) 8 % 2 ^ maskN q < q
      · rw [if_pos hy]
        exact ⟨Int.emod_nonneg _ (by have : (0 : Int) < 2 ^ maskN q := Int.pow_pos (by decide); omega), hy⟩
      · rw [if_neg hy] at hf ⊢
        exact numT_in q0 n _ _ hf

/-- A number takes a block at least. -/
theorem numT_more {h : Nat → Int} {q : Int} (n : Nat) (c x : Int) (h0 : 0 ≤ c) (h1 : c ≤ 1099511627776) (hf : (numT h q (n + 1) c x).2.2 = false) : c < (numT h q (n + 1) c x).2.1 := by
  by_cases hc : c = 1099511627776
  · rw [numT, if_pos hc] at hf
    cases hf
  · rw [numT, if_neg hc]
    by_cases hy : firK (shaB (posL h c)) 8 % 2 ^ maskN q < q
    · rw [if_pos hy]
      simp only
      omega
    · rw [if_neg hy]
      have := (numT_range (h := h) (q := q) n (c + 1) (firK (shaB (posL h c)) 8 % 2 ^ maskN q) (by omega) (by omega)).1
      omega

/-- Where the counter is low there is a block. -/
theorem numT_low {h : Nat → Int} {q : Int} : ∀ (n : Nat) (c x : Int), c + n ≤ 1099511627776 → (numT h q n c x).2.2 = false ∧ (numT h q n c x).2.1 ≤ c + n
  | 0, c, x, _ => ⟨rfl, by rw [numT]; simp⟩
  | n + 1, c, x, hl => by
    rw [numT, if_neg (by omega)]
    split
    · exact ⟨rfl, by simp only; omega⟩
    · obtain ⟨h1, h2⟩ := numT_low (h := h) (q := q) n (c + 1) (firK (shaB (posL h c)) 8 % 2 ^ maskN q) (by omega)
      exact ⟨h1, by omega⟩

theorem nzT_low {h : Nat → Int} {q : Int} (q0 : 2 ≤ q) : ∀ (n : Nat) (c : Int), 0 ≤ c → c + 256 * n ≤ 1099511627776 → (nzT h q n c).2.2 = false ∧ (1 ≤ (nzT h q n c).1 ∧ (nzT h q n c).1 < q) ∧ (1 ≤ n → c < (nzT h q n c).2.1)
  | 0, c, _, _ => ⟨rfl, ⟨by rw [nzT]; simp, by rw [nzT]; simp only; omega⟩, fun h => by omega⟩
  | n + 1, c, h0, hl => by
    obtain ⟨f0, l0⟩ := numT_low (h := h) (q := q) 256 c 0 (by omega)
    have m0 : c < (numT h q 256 c 0).2.1 := numT_more (h := h) (q := q) 255 c 0 h0 (by omega) f0
    have r0 := numT_in (by omega) 256 c 0 f0
    by_cases hz : (numT h q 256 c 0).1 = 0
    · rw [nzT_next f0 hz]
      obtain ⟨i1, i2, i3⟩ := nzT_low q0 n (numT h q 256 c 0).2.1 (by omega) (by omega)
      refine ⟨i1, i2, fun _ => ?_⟩
      by_cases hn : 1 ≤ n
      · have := i3 hn
        omega
      · obtain rfl : n = 0 := by omega
        rw [nzT]
        exact m0
    · rw [nzT_num f0 hz]
      exact ⟨rfl, ⟨by simp only; omega, r0.2⟩, fun _ => m0⟩

/-- The bits of a power of 2. -/
theorem maskN_pow (n : Nat) (hn : n ≤ 61) : maskN (2 ^ n) = n := by
  unfold maskN
  have hp : 0 < (2 : Nat) ^ n := Nat.pow_pos (by decide)
  have e : ((2 : Int) ^ n - 1).toNat = 2 ^ n - 1 := by
    have : ((2 ^ n : Nat) : Int) = (2 : Int) ^ n := by simp
    omega
  rw [e]
  by_cases h0 : 2 ^ n - 1 = 0
  · have hn0 : n = 0 := by
      refine Nat.eq_zero_of_not_pos fun h => ?_
      have : 2 ^ 1 ≤ 2 ^ n := Nat.pow_le_pow_right (by decide) h
      omega
    subst hn0
    decide
  · have h64 : (2 : Nat) ^ n ≤ 2 ^ 61 := Nat.pow_le_pow_right (by decide) hn
    have hb := Lib.bitLenAux_bounds 64 (2 ^ n - 1) (by omega) h0
    change 1 ≤ Lib.bitLen (2 ^ n - 1) ∧ 2 ^ (Lib.bitLen (2 ^ n - 1) - 1) ≤ 2 ^ n - 1 ∧ 2 ^ n - 1 < 2 ^ Lib.bitLen (2 ^ n - 1) at hb
    generalize Lib.bitLen (2 ^ n - 1) = b at *
    obtain ⟨b1, b2, b3⟩ := hb
    have c1 : n ≤ b := (Nat.pow_le_pow_iff_right (by decide)).1 (show 2 ^ n ≤ 2 ^ b by omega)
    have c2 : b - 1 < n := (Nat.pow_lt_pow_iff_right (by decide)).1 (show 2 ^ (b - 1) < 2 ^ n by omega)
    omega

theorem numT_pow {h : Nat → Int} {n : Nat} (hn : n ≤ 61) {c : Int} (hc : c ≠ 1099511627776) : numT h (2 ^ n) 256 c 0 = (firK (shaB (posL h c)) 8 % 2 ^ n, c + 1, false) := by
  rw [numT, if_neg hc, maskN_pow n hn, if_pos (Int.emod_lt_of_pos _ (Int.pow_pos (by decide)))]

/-- The counter, and the flag, behind k numbers of a list; the number that comes next. -/
def lstC (h : Nat → Int) (q c : Int) : Nat → Int
  | 0 => c
  | k + 1 => (numT h q 256 (lstC h q c k) 0).2.1
def lstX (h : Nat → Int) (q c : Int) (k : Nat) : Int := (numT h q 256 (lstC h q c k) 0).1
def lstF (h : Nat → Int) (q c : Int) : Nat → Bool
  | 0 => false
  | k + 1 => (numT h q 256 (lstC h q c k) 0).2.2
def lstL (h : Nat → Int) (q c : Int) (n : Nat) : List Int := (List.range n).map (lstX h q c)

theorem lstC_range {h : Nat → Int} {q c : Int} (h0 : 0 ≤ c) (h1 : c ≤ 1099511627776) : ∀ k, 0 ≤ lstC h q c k ∧ lstC h q c k ≤ 1099511627776
  | 0 => ⟨h0, h1⟩
  | k + 1 => by
    obtain ⟨i0, i1⟩ := lstC_range h0 h1 k
    have := numT_range (h := h) (q := q) 256 (lstC h q c k) 0 i0 i1
    rw [lstC]
    omega
theorem numT_stuck {h : Nat → Int} {q : Int} : ∀ (n : Nat) (c x : Int), (numT h q n c x).2.2 = true → (numT h q n c x).2.1 = 1099511627776
  | 0, c, x, hf => by cases hf
  | n + 1, c, x, hf => by
    by_cases hc : c = 1099511627776
    · rw [numT, if_pos hc]; exact hc
    · rw [numT, if_neg hc] at hf ⊢
      split at hf
      · cases hf
      · rename_i hy
        rw [if_neg hy]
        exact numT_stuck n _ _ hf
theorem lstF_stuck {h : Nat → Int} {q c : Int} : ∀ k, lstF h q c k = true → lstC h q c k = 1099511627776
  | 0, hf => by cases hf
  | k + 1, hf => numT_stuck 256 _ _ hf
theorem lstF_on {h : Nat → Int} {q c : Int} {k : Nat} (hf : lstF h q c k = true) : lstF h q c (k + 1) = true := by
  rw [lstF, numT_most (by omega) (lstF_stuck k hf)]
theorem lstF_back {h : Nat → Int} {q c : Int} {n : Nat} (hf : lstF h q c n = false) : ∀ k, k ≤ n → lstF h q c k = false := by
  intro k hk
  induction n with
  | zero => obtain rfl : k = 0 := by omega
            rfl
  | succ n ih =>
    by_cases hkn : k = n + 1
    · rw [hkn]; exact hf
    · refine ih ?_ (by omega)
      cases hfn : lstF h q c n with
      | false => rfl
      | true => rw [lstF_on hfn] at hf; cases hf
theorem lstL_succ (h : Nat → Int) (q c : Int) (n : Nat) : lstL h q c (n + 1) = lstL h q c n ++ [lstX h q c n] := by
  unfold lstL
  rw [List.range_succ, List.map_append]
  rfl
theorem lstL_length (h : Nat → Int) (q c : Int) (n : Nat) : (lstL h q c n).length = n := by simp [lstL]
theorem lstL_get {h : Nat → Int} {q c : Int} {n k : Nat} (hk : k < n) : (lstL h q c n).getD k 0 = lstX h q c k := by
  unfold lstL
  simp [hk]
end Go.Proofs.YtoaomjdpiealfaaGreatDoor
