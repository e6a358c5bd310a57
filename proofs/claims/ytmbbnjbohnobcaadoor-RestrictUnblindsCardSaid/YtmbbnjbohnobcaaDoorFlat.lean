/- Structs of integers among the arguments. -/
import Derived.Test.YtmbbnjbohnobcaaDoorOpen
namespace Go.Proofs.YtmbbnjbohnobcaaDoor
open Go.ChangeShapes Go.WideShapes Go.ChangeAt Go.RowKit Go.Sp

set_option maxRecDepth 100000 in
theorem open_key {H : Type} {enc : TypeId × Value → H} {r : Reach} {b0 base : Nat} {spare : Nat → Bool} {held : Bool} {w : World} {v : Value} {d : DataW H} {p : List MemPlace}
    (hv : Value.okWide Tryd.prog w r b0 41 v) (h : DataW.Trod enc Tryd.prog w base spare held 41 v d p) :
    ∃ x0 x1 x2 : Int, v = .agg #[.int .i64 x0, .int .i64 x1, .int .i64 x2] ∧ (-9223372036854775808 ≤ x0 ∧ x0 ≤ 9223372036854775807) ∧ (-9223372036854775808 ≤ x1 ∧ x1 ≤ 9223372036854775807) ∧ (-9223372036854775808 ≤ x2 ∧ x2 ≤ 9223372036854775807) := by
  obtain ⟨cs, rfl, hsz⟩ := okWide_struct Tryd.underlying41 hv
  have hC : Tryd.prog.cellsOf 41 = 3 := by kernel_rfl
  obtain ⟨l⟩ := cs
  match l, hsz.trans hC with
  | [c0, c1, c2], _ =>
    obtain ⟨fuel, hf⟩ := h
    obtain ⟨xs, n, _, hx, _, hlen, hg⟩ := DataW.trod_struct Tryd.underlying41 hf
    match xs, hlen with
    | [y0, y1, y2], _ =>
      have f0 := hg 0 _ rfl
      have f1 := hg 1 _ rfl
      have f2 := hg 2 _ rfl
      simp [Value.cells, cellsInt] at f0 f1 f2
      obtain ⟨a0, e0, rfl, w0⟩ := DataW.trod_int Tryd.underlying3 f0
      obtain ⟨a1, e1, rfl, w1⟩ := DataW.trod_int Tryd.underlying3 f1
      obtain ⟨a2, e2, rfl, w2⟩ := DataW.trod_int Tryd.underlying3 f2
      simp at e0 e1 e2
      subst e0 e1 e2
      exact ⟨a0, a1, a2, rfl, bounds_i64 w0, bounds_i64 w1, bounds_i64 w2⟩

set_option maxRecDepth 100000 in
theorem open_sign {H : Type} {enc : TypeId × Value → H} {r : Reach} {b0 base : Nat} {spare : Nat → Bool} {held : Bool} {w : World} {v : Value} {d : DataW H} {p : List MemPlace}
    (hv : Value.okWide Tryd.prog w r b0 58 v) (h : DataW.Trod enc Tryd.prog w base spare held 58 v d p) :
    ∃ x0 x1 x2 x3 : Int, v = .agg #[.int .i64 x0, .int .i64 x1, .int .i64 x2, .int .i64 x3] ∧ (-9223372036854775808 ≤ x0 ∧ x0 ≤ 9223372036854775807) ∧ (-9223372036854775808 ≤ x1 ∧ x1 ≤ 9223372036854775807) ∧ (-9223372036854775808 ≤ x2 ∧ x2 ≤ 9223372036854775807) ∧ (-9223372036854775808 ≤ x3 ∧ x3 ≤ 9223372036854775807) := by
  obtain ⟨cs, rfl, hsz⟩ := okWide_struct Tryd.underlying58 hv
  have hC : Tryd.prog.cellsOf 58 = 4 := by kernel_rfl
  obtain ⟨l⟩ := cs
  match l, hsz.trans hC with
  | [c0, c1, c2, c3], _ =>
    obtain ⟨fuel, hf⟩ := h
    obtain ⟨xs, n, _, hx, _, hlen, hg⟩ := DataW.trod_struct Tryd.underlying58 hf
    match xs, hlen with
    | [y0, y1, y2, y3], _ =>
      have f0 := hg 0 _ rfl
      have f1 := hg 1 _ rfl
      have f2 := hg 2 _ rfl
      have f3 := hg 3 _ rfl
      simp [Value.cells, cellsInt] at f0 f1 f2 f3
      obtain ⟨a0, e0, rfl, w0⟩ := DataW.trod_int Tryd.underlying3 f0
      obtain ⟨a1, e1, rfl, w1⟩ := DataW.trod_int Tryd.underlying3 f1
      obtain ⟨a2, e2, rfl, w2⟩ := DataW.trod_int Tryd.underlying3 f2
      obtain ⟨a3, e3, rfl, w3⟩ := DataW.trod_int Tryd.underlying3 f3
      simp at e0 e1 e2 e3
      subst e0 e1 e2 e3
      exact ⟨a0, a1, a2, a3, rfl, bounds_i64 w0, bounds_i64 w1, bounds_i64 w2, bounds_i64 w3⟩

set_option maxRecDepth 100000 in
theorem open_view {H : Type} {enc : TypeId × Value → H} {r : Reach} {b0 base : Nat} {spare : Nat → Bool} {held : Bool} {w : World} {v : Value} {d : DataW H} {p : List MemPlace}
    (hv : Value.okWide Tryd.prog w r b0 56 v) (h : DataW.Trod enc Tryd.prog w base spare held 56 v d p) :
    ∃ x0 x1 x2 x3 x4 x5 : Int, v = .agg #[.int .i64 x0, .int .i64 x1, .int .i64 x2, .int .i64 x3, .int .i64 x4, .int .i64 x5] ∧ (-9223372036854775808 ≤ x0 ∧ x0 ≤ 9223372036854775807) ∧ (-9223372036854775808 ≤ x1 ∧ x1 ≤ 9223372036854775807) ∧ (-9223372036854775808 ≤ x2 ∧ x2 ≤ 9223372036854775807) ∧ (-9223372036854775808 ≤ x3 ∧ x3 ≤ 9223372036854775807) ∧ (-9223372036854775808 ≤ x4 ∧ x4 ≤ 9223372036854775807) ∧ (-9223372036854775808 ≤ x5 ∧ x5 ≤ 9223372036854775807) := by
  obtain ⟨cs, rfl, hsz⟩ := okWide_struct Tryd.underlying56 hv
  have hC : Tryd.prog.cellsOf 56 = 6 := by kernel_rfl
  obtain ⟨l⟩ := cs
  match l, hsz.trans hC with
  | [c0, c1, c2, c3, c4, c5], _ =>
    obtain ⟨fuel, hf⟩ := h
    obtain ⟨xs, n, _, hx, _, hlen, hg⟩ := DataW.trod_struct Tryd.underlying56 hf
    match xs, hlen with
    | [y0, y1, y2, y3, y4, y5], _ =>
      have f0 := hg 0 _ rfl
      have f1 := hg 1 _ rfl
      have f2 := hg 2 _ rfl
      have f3 := hg 3 _ rfl
      have f4 := hg 4 _ rfl
      have f5 := hg 5 _ rfl
      simp [Value.cells, cellsInt] at f0 f1 f2 f3 f4 f5
      obtain ⟨a0, e0, rfl, w0⟩ := DataW.trod_int Tryd.underlying3 f0
      obtain ⟨a1, e1, rfl, w1⟩ := DataW.trod_int Tryd.underlying3 f1
      obtain ⟨a2, e2, rfl, w2⟩ := DataW.trod_int Tryd.underlying3 f2
      obtain ⟨a3, e3, rfl, w3⟩ := DataW.trod_int Tryd.underlying3 f3
      obtain ⟨a4, e4, rfl, w4⟩ := DataW.trod_int Tryd.underlying3 f4
      obtain ⟨a5, e5, rfl, w5⟩ := DataW.trod_int Tryd.underlying3 f5
      simp at e0 e1 e2 e3 e4 e5
      subst e0 e1 e2 e3 e4 e5
      exact ⟨a0, a1, a2, a3, a4, a5, rfl, bounds_i64 w0, bounds_i64 w1, bounds_i64 w2, bounds_i64 w3, bounds_i64 w4, bounds_i64 w5⟩

set_option maxRecDepth 100000 in
theorem open_factors {H : Type} {enc : TypeId × Value → H} {r : Reach} {b0 base : Nat} {spare : Nat → Bool} {held : Bool} {w : World} {v : Value} {d : DataW H} {p : List MemPlace}
    (hv : Value.okWide Tryd.prog w r b0 60 v) (h : DataW.Trod enc Tryd.prog w base spare held 60 v d p) :
    ∃ x0 x1 x2 : Int, v = .agg #[.int .i64 x0, .int .i64 x1, .int .i64 x2] ∧ (-9223372036854775808 ≤ x0 ∧ x0 ≤ 9223372036854775807) ∧ (-9223372036854775808 ≤ x1 ∧ x1 ≤ 9223372036854775807) ∧ (-9223372036854775808 ≤ x2 ∧ x2 ≤ 9223372036854775807) := by
  obtain ⟨cs, rfl, hsz⟩ := okWide_struct Tryd.underlying60 hv
  have hC : Tryd.prog.cellsOf 60 = 3 := by kernel_rfl
  obtain ⟨l⟩ := cs
  match l, hsz.trans hC with
  | [c0, c1, c2], _ =>
    obtain ⟨fuel, hf⟩ := h
    obtain ⟨xs, n, _, hx, _, hlen, hg⟩ := DataW.trod_struct Tryd.underlying60 hf
    match xs, hlen with
    | [y0, y1, y2], _ =>
      have f0 := hg 0 _ rfl
      have f1 := hg 1 _ rfl
      have f2 := hg 2 _ rfl
      simp [Value.cells, cellsInt] at f0 f1 f2
      obtain ⟨a0, e0, rfl, w0⟩ := DataW.trod_int Tryd.underlying3 f0
      obtain ⟨a1, e1, rfl, w1⟩ := DataW.trod_int Tryd.underlying3 f1
      obtain ⟨a2, e2, rfl, w2⟩ := DataW.trod_int Tryd.underlying3 f2
      simp at e0 e1 e2
      subst e0 e1 e2
      exact ⟨a0, a1, a2, rfl, bounds_i64 w0, bounds_i64 w1, bounds_i64 w2⟩
end Go.Proofs.YtmbbnjbohnobcaaDoor
