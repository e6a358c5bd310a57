/- Parts of slices. Arguments opened: slices of integers, rows of them, tables, bases. Structs of integers among the arguments. -/
import Derived.Test.YtdlcmpbpdbpanaaDoorMSignatureFits7
import Derived.Test.YtdlcmpbpdbpanaaDoorMSignatureFits6
import Derived.Deep.Matrix
namespace Go.Proofs.YtdlcmpbpdbpanaaDoor
open Go.RowKit Go.Sp
set_option maxHeartbeats 1000000
set_option maxRecDepth 20000

/-- The slice's length is within its capacity. -/
def Room (v : Value) : Prop := ∃ a n cap, v = .slice a n cap ∧ n ≤ cap ∧ cap ≤ 9223372036854775807 ∧ (a = none → cap = 0)

theorem ints_sub {w : World} {b off n cap lo hi c : Nat} {xs : List Int} (h : IntsAt w (.slice (some ⟨b, off, none⟩) n cap) xs) (h1 : lo ≤ hi) (h2 : hi ≤ n) : IntsAt w (.slice (some ⟨b, off + lo, none⟩) (hi - lo) c) ((xs.drop lo).take (hi - lo)) := by
  obtain ⟨hl, a', cap', hv, hcell⟩ := h
  injection hv with e1 e2 e3
  subst e1 e2 e3
  have hlen : ((xs.drop lo).take (hi - lo)).length = hi - lo := by simp; omega
  refine ⟨by omega, _, _, by rw [hlen], fun hne => ?_⟩
  have h3 : lo < hi := by
    refine Nat.lt_of_le_of_ne h1 fun e => hne ?_
    rw [e, Nat.sub_self, List.take_zero]
  obtain ⟨b', off', hb, hk⟩ := hcell (by rintro rfl; simp at h2; omega)
  injection hb with hb
  injection hb with hb1 hb2
  subst hb1 hb2
  refine ⟨b, off + lo, rfl, fun i hi' => ?_⟩
  rw [hlen] at hi'
  have := hk (lo + i) (by omega)
  rw [Nat.add_assoc, this]
  simp [hi', List.getElem?_drop]

theorem drop_split (xs : List Int) (f d : Nat) : xs.drop f = (xs.drop f).take d ++ xs.drop (f + d) := by
  rw [← List.drop_drop, List.take_append_drop]

/-- A slice of slices of integers. -/
def RowsAt (w : World) (v : Value) (rs : List (List Int)) : Prop :=
  rs.length ≤ 9223372036854775807 ∧ ∃ a cap, v = .slice a rs.length cap ∧ (rs ≠ [] → ∃ b off, a = some ⟨b, off, none⟩ ∧ ∀ i, i < rs.length → ∃ u, w.cell? ⟨b, off + i, none⟩ = some u ∧ IntsAt w u (rs.getD i []))

theorem RowsAt.up {w w' : World} {v : Value} {rs : List (List Int)} (h : RowsAt w v rs) (hU : Up w w') : RowsAt w' v rs := by
  obtain ⟨hl, a, cap, rfl, hc⟩ := h
  refine ⟨hl, a, cap, rfl, fun hne => ?_⟩
  obtain ⟨b, off, rfl, hcell⟩ := hc hne
  refine ⟨b, off, rfl, fun i hi => ?_⟩
  obtain ⟨u, hu, hI⟩ := hcell i hi
  exact ⟨u, by rw [hU.cell (cell_lt hu)]; exact hu, hI.up hU⟩

theorem rows_cell {w w' : World} {a : Option Addr} {n cap : Nat} {rs : List (List Int)} (h : RowsAt w (.slice a n cap) rs) (hU : Up w w') {i : Nat} (hi : i < rs.length) :
    ∃ b off u, a = some ⟨b, off, none⟩ ∧ w'.cell? ⟨b, off + i, none⟩ = some u ∧ IntsAt w' u (rs.getD i []) := by
  obtain ⟨_, a', cap', hv, hc⟩ := h
  injection hv with e1 e2 e3
  subst e1
  obtain ⟨b, off, rfl, hcell⟩ := hc (by rintro rfl; simp at hi)
  obtain ⟨u, hu, hI⟩ := hcell i hi
  exact ⟨b, off, u, rfl, cellUp hU hu, hI.up hU⟩

theorem rows_drop {rs : List (List Int)} {i : Nat} (hi : i < rs.length) : rs.drop i = rs.getD i [] :: rs.drop (i + 1) := by
  rw [List.drop_eq_getElem_cons hi]; simp [hi]
theorem rows_mem {rs : List (List Int)} {i : Nat} (hi : i < rs.length) : rs.getD i [] ∈ rs := by simp [hi]
end Go.Proofs.YtdlcmpbpdbpanaaDoor
namespace Go.Proofs.YtdlcmpbpdbpanaaDoor
open Go.ChangeShapes Go.WideShapes Go.ChangeAt Go.RowKit Go.Sp Go.Joins Go.Deep

theorem ints_of_zs {w : World} {a : Addr} {len cap : Nat} {zs : List Int} (hl : len ≤ cap) (hm : cap ≤ maxLen) (hz : zs.length = cap) (hcell : ∀ i, i < zs.length → w.cell? (a.add i) = some (.int .i64 (zs.getD i 0))) :
    IntsAt w (.slice (some a) len cap) (zs.take len) := by
  unfold maxLen at hm
  have hlen : (zs.take len).length = len := by simp; omega
  refine ⟨by omega, some a, cap, by rw [hlen], fun hne => ?_⟩
  have h0 : 0 < len := by
    refine Nat.pos_of_ne_zero fun e => hne ?_
    subst e; simp
  obtain ⟨ab, ao, spot⟩ := a
  have hspot : spot = none := by simpa [Addr.add] using World.cell?_spot (hcell 0 (by omega))
  subst hspot
  refine ⟨ab, ao, rfl, fun i hi => ?_⟩
  rw [hlen] at hi
  have := hcell i (by omega)
  rw [Addr.add_lit] at this
  rw [this]
  simp [hi]

set_option maxRecDepth 100000 in
/-- A slice of integers among the arguments. -/
theorem open_intslice {H : Type} {enc : TypeId × Value → H} {b0 base : Nat} {w : World} {v : Value} {d : DataW H} {p : List MemPlace}
    (hv : Value.okWide Tryd.prog w .any b0 44 v) (h : DataW.Trod enc Tryd.prog w base (fun _ => true) true 44 v d p) :
    ∃ xs : List Int, IntsAt w v xs ∧ (∀ x ∈ xs, -9223372036854775808 ≤ x ∧ x ≤ 9223372036854775807) ∧ Room v := by
  obtain ⟨a1, len, cap, rfl⟩ := okWide_slice Tryd.underlying44 hv
  obtain ⟨fuel, hf⟩ := h
  rcases open_ints Tryd.underlying44 Tryd.underlying3 cellsInt hf with ⟨hcs, hx⟩ | ⟨a, len', cap', zs, hcs, _, hl, hm, hz, hx, hcell, hwz⟩
  · simp [Value.cells] at hcs
    obtain ⟨rfl, rfl, rfl⟩ := hcs
    exact ⟨[], ⟨by simp, none, 0, rfl, fun h => absurd rfl h⟩, (fun x hx => by cases hx), _, _, _, rfl, Nat.le_refl _, by omega, fun _ => rfl⟩
  · simp [Value.cells] at hcs
    obtain ⟨rfl, rfl, rfl⟩ := hcs
    simp only [if_true] at hz
    exact ⟨zs.take len, ints_of_zs hl hm hz hcell, (fun x hx => bounds_i64 (hwz x (List.mem_of_mem_take hx))), _, _, _, rfl, hl, by unfold maxLen at hm; omega, fun h => by cases h⟩

set_option maxRecDepth 100000 in
/-- Bases among the arguments: six numbers. -/
theorem open_bases {H : Type} {enc : TypeId × Value → H} {r : Reach} {b0 base : Nat} {spare : Nat → Bool} {held : Bool} {w : World} {v : Value} {d : DataW H} {p : List MemPlace}
    (hv : Value.okWide Tryd.prog w r b0 54 v) (h : DataW.Trod enc Tryd.prog w base spare held 54 v d p) :
    ∃ P Q G A B C : Int, v = .agg #[.int .i64 P, .int .i64 Q, .int .i64 G, .int .i64 A, .int .i64 B, .int .i64 C] ∧ (-9223372036854775808 ≤ P ∧ P ≤ 9223372036854775807) ∧ (-9223372036854775808 ≤ Q ∧ Q ≤ 9223372036854775807) ∧ (-9223372036854775808 ≤ G ∧ G ≤ 9223372036854775807) ∧
      (-9223372036854775808 ≤ A ∧ A ≤ 9223372036854775807) ∧ (-9223372036854775808 ≤ B ∧ B ≤ 9223372036854775807) ∧ (-9223372036854775808 ≤ C ∧ C ≤ 9223372036854775807) := by
  obtain ⟨cs, rfl, hsz⟩ := okWide_struct Tryd.underlying54 hv
  have hC : Tryd.prog.cellsOf 54 = 6 := by kernel_rfl
  obtain ⟨l⟩ := cs
  match l, hsz.trans hC with
  | [c0, c1, c2, c3, c4, c5], _ =>
    obtain ⟨fuel, hf⟩ := h
    obtain ⟨xs, n, _, hx, _, hlen, hg⟩ := DataW.trod_struct Tryd.underlying54 hf
    match xs, hlen with
    | [y0, y1, y2, y3], _ =>
      have f0 := hg 0 _ rfl
      have f1 := hg 1 _ rfl
      have f2 := hg 2 _ rfl
      have f3 := hg 3 _ rfl
      simp [Value.cells, cellsGroup, cellsInt] at f0 f1 f2 f3
      obtain ⟨zs, m, _, hz, _, hzl, hzg⟩ := DataW.trod_struct Tryd.underlying52 f0
      match zs, hzl with
      | [z0, z1, z2], _ =>
        have e0 := hzg 0 _ rfl
        have e1 := hzg 1 _ rfl
        have e2 := hzg 2 _ rfl
        simp [cellsInt] at e0 e1 e2
        obtain ⟨q0, h0, rfl, w0⟩ := DataW.trod_int Tryd.underlying3 e0
        obtain ⟨q1, h1, rfl, w1⟩ := DataW.trod_int Tryd.underlying3 e1
        obtain ⟨q2, h2, rfl, w2⟩ := DataW.trod_int Tryd.underlying3 e2
        obtain ⟨q3, h3, rfl, w3⟩ := DataW.trod_int Tryd.underlying3 f1
        obtain ⟨q4, h4, rfl, w4⟩ := DataW.trod_int Tryd.underlying3 f2
        obtain ⟨q5, h5, rfl, w5⟩ := DataW.trod_int Tryd.underlying3 f3
        simp at h0 h1 h2 h3 h4 h5
        subst h0 h1 h2 h3 h4 h5
        exact ⟨q0, q1, q2, q3, q4, q5, rfl, bounds_i64 w0, bounds_i64 w1, bounds_i64 w2, bounds_i64 w3, bounds_i64 w4, bounds_i64 w5⟩

set_option maxRecDepth 100000 in
/-- A byte among the arguments. -/
theorem open_u8 {H : Type} {enc : TypeId × Value → H} {r : Reach} {b0 base : Nat} {spare : Nat → Bool} {held : Bool} {w : World} {v : Value} {d : DataW H} {p : List MemPlace}
    (hv : Value.okWide Tryd.prog w r b0 5 v) (h : DataW.Trod enc Tryd.prog w base spare held 5 v d p) :
    ∃ x : Int, v = .int .u8 x ∧ 0 ≤ x ∧ x ≤ 255 := by
  obtain ⟨x, rfl, rfl, rfl, wx⟩ := open_int Tryd.underlying5 hv h
  have a : IntKind.u8.min = 0 := by decide
  have b : IntKind.u8.max = 255 := by decide
  simp [Lit.wf, a, b] at wx
  exact ⟨x, rfl, by omega, by omega⟩
end Go.Proofs.YtdlcmpbpdbpanaaDoor
namespace Go.Proofs.YtdlcmpbpdbpanaaDoor
open Go.ChangeShapes Go.WideShapes Go.ChangeAt Go.RowKit Go.Sp

set_option maxRecDepth 100000 in
theorem open_key {H : Type} {enc : TypeId × Value → H} {r : Reach} {b0 base : Nat} {spare : Nat → Bool} {held : Bool} {w : World} {v : Value} {d : DataW H} {p : List MemPlace}
    (hv : Value.okWide Tryd.prog w r b0 79 v) (h : DataW.Trod enc Tryd.prog w base spare held 79 v d p) :
    ∃ x0 x1 x2 : Int, v = .agg #[.int .i64 x0, .int .i64 x1, .int .i64 x2] ∧ (-9223372036854775808 ≤ x0 ∧ x0 ≤ 9223372036854775807) ∧ (-9223372036854775808 ≤ x1 ∧ x1 ≤ 9223372036854775807) ∧ (-9223372036854775808 ≤ x2 ∧ x2 ≤ 9223372036854775807) := by
  obtain ⟨cs, rfl, hsz⟩ := okWide_struct Tryd.underlying79 hv
  have hC : Tryd.prog.cellsOf 79 = 3 := by kernel_rfl
  obtain ⟨l⟩ := cs
  match l, hsz.trans hC with
  | [c0, c1, c2], _ =>
    obtain ⟨fuel, hf⟩ := h
    obtain ⟨xs, n, _, hx, _, hlen, hg⟩ := DataW.trod_struct Tryd.underlying79 hf
    match xs, hlen with
    | [y0, y1, y2], _ =>
      have f0 := hg 0 _ rfl
      have f1 := hg 1 _ rfl
      have f2 := hg 2 _ rfl
      simp [Value.cells, cellsInt] at f0 f1 f2
      obtain ⟨a0, e0, rfl, w0⟩ := DataW.trod_int Tryd.underlying3 f0
      obtain ⟨a1, e1, rfl, w1⟩ := DataW.trod_int Tryd.underlying3 f1
      obtain ⟨a2, e2, rfl, w2⟩ := DataW.trod_int Tryd.underlying3 f2
      simp at e0 e1 e2
      subst e0 e1 e2
      exact ⟨a0, a1, a2, rfl, bounds_i64 w0, bounds_i64 w1, bounds_i64 w2⟩

set_option maxRecDepth 100000 in
theorem open_sign {H : Type} {enc : TypeId × Value → H} {r : Reach} {b0 base : Nat} {spare : Nat → Bool} {held : Bool} {w : World} {v : Value} {d : DataW H} {p : List MemPlace}
    (hv : Value.okWide Tryd.prog w r b0 56 v) (h : DataW.Trod enc Tryd.prog w base spare held 56 v d p) :
    ∃ x0 x1 x2 x3 : Int, v = .agg #[.int .i64 x0, .int .i64 x1, .int .i64 x2, .int .i64 x3] ∧ (-9223372036854775808 ≤ x0 ∧ x0 ≤ 9223372036854775807) ∧ (-9223372036854775808 ≤ x1 ∧ x1 ≤ 9223372036854775807) ∧ (-9223372036854775808 ≤ x2 ∧ x2 ≤ 9223372036854775807) ∧ (-9223372036854775808 ≤ x3 ∧ x3 ≤ 9223372036854775807) := by
  obtain ⟨cs, rfl, hsz⟩ := okWide_struct Tryd.underlying56 hv
  have hC : Tryd.prog.cellsOf 56 = 4 := by kernel_rfl
  obtain ⟨l⟩ := cs
  match l, hsz.trans hC with
  | [c0, c1, c2, c3], _ =>
    obtain ⟨fuel, hf⟩ := h
    obtain ⟨xs, n, _, hx, _, hlen, hg⟩ := DataW.trod_struct Tryd.underlying56 hf
    match xs, hlen with
    | [y0, y1, y2, y3], _ =>
      have f0 := hg 0 _ rfl
      have f1 := hg 1 _ rfl
      have f2 := hg 2 _ rfl
      have f3 := hg 3 _ rfl
      simp [Value.cells, cellsInt] at f0 f1 f2 f3
      obtain ⟨a0, e0, rfl, w0⟩ := DataW.trod_int Tryd.underlying3 f0
      obtain ⟨a1, e1, rfl, w1⟩ := DataW.trod_int Tryd.underlying3 f1
      obtain ⟨a2, e2, rfl, w2⟩ := DataW.trod_int Tryd.underlying3 f2
      obtain ⟨a3, e3, rfl, w3⟩ := DataW.trod_int Tryd.underlying3 f3
      simp at e0 e1 e2 e3
      subst e0 e1 e2 e3
      exact ⟨a0, a1, a2, a3, rfl, bounds_i64 w0, bounds_i64 w1, bounds_i64 w2, bounds_i64 w3⟩

end Go.Proofs.YtdlcmpbpdbpanaaDoor
