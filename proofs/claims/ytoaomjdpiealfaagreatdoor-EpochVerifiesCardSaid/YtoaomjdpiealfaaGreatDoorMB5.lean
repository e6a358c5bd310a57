/- A group's numbers in the worlds of a drawn region. Parts of slices. Arguments opened: slices of integers, rows of them, tables, bases. Structs of integers among the arguments. SHA-256 on integers, as both texts compute it. No program in sight. -/
import Derived.Test.YtoaomjdpiealfaaGreatDoorMB4
import Derived.Deep.Matrix
import Derived.WalkKit
import Derived.Laws.BitsAllLaws
namespace Go.Proofs.YtoaomjdpiealfaaGreatDoor
open Go.RowKit Go.Sp

theorem cellF {w : World} {b o : Nat} {v : Value} (h : w.cell? ⟨b, o, none⟩ = some v) (p : UpFrom w) : p.w'.cell? ⟨b, o, none⟩ = some v := cellUp p.up h

theorem GrpAt.from {w : World} {b : Nat} {P Q G : Int} (h : GrpAt w b P Q G) : (∀ p : UpFrom w, p.w'.cell? ⟨b, 0, none⟩ = some (.int .i64 P)) ∧ (∀ p : UpFrom w, p.w'.cell? ⟨b, 1, none⟩ = some (.int .i64 Q)) ∧ ∀ p : UpFrom w, p.w'.cell? ⟨b, 2, none⟩ = some (.int .i64 G) :=
  ⟨fun p => cellF h.1 p, fun p => cellF h.2.1 p, fun p => cellF h.2.2 p⟩
end Go.Proofs.YtoaomjdpiealfaaGreatDoor
namespace Go.Proofs.YtoaomjdpiealfaaGreatDoor
open Go.RowKit Go.Sp
set_option maxHeartbeats 1000000
set_option maxRecDepth 20000

/-- The slice's length is within its capacity. -/
def Room (v : Value) : Prop := ∃ a n cap, v = .slice a n cap ∧ n ≤ cap ∧ cap ≤ 9223372036854775807 ∧ (a = none → cap = 0)

theorem ints_sub {w : World} {b off n cap lo hi c : Nat} {xs : List Int} (h : IntsAt w (.slice (some ⟨b, off, none⟩) n cap) xs) (h1 : lo ≤ hi) (h2 : hi ≤ n) : IntsAt w (.slice (some ⟨b, off + lo, none⟩) (hi - lo) c) ((xs.drop lo).take (hi - lo)) := by
  obtain ⟨hl, a', cap', hv, hcell⟩ := h
  injection hv with e1 e2 e3
  subst e1 e2 e3
  have hlen : ((xs.drop lo).take (hi - lo)).length = hi - lo := by simp; omega
  refine ⟨by omega, _, _, by rw [hlen], fun hne => ?_⟩
  have h3 : lo < hi := by
    refine Nat.lt_of_le_of_ne h1 fun e => hne ?_
    rw [e, Nat.sub_self, List.take_zero]
  obtain ⟨b', off', hb, hk⟩ := hcell (by rintro rfl; simp at h2; omega)
  injection hb with hb
  injection hb with hb1 hb2
  subst hb1 hb2
  refine ⟨b, off + lo, rfl, fun i hi' => ?_⟩
  rw [hlen] at hi'
  have := hk (lo + i) (by omega)
  rw [Nat.add_assoc, this]
  simp [hi', List.getElem?_drop]

theorem drop_split (xs : List Int) (f d : Nat) : xs.drop f = (xs.drop f).take d ++ xs.drop (f + d) := by
  rw [← List.drop_drop, List.take_append_drop]

/-- A slice of slices of integers. -/
def RowsAt (w : World) (v : Value) (rs : List (List Int)) : Prop :=
  rs.length ≤ 9223372036854775807 ∧ ∃ a cap, v = .slice a rs.length cap ∧ (rs ≠ [] → ∃ b off, a = some ⟨b, off, none⟩ ∧ ∀ i, i < rs.length → ∃ u, w.cell? ⟨b, off + i, none⟩ = some u ∧ IntsAt w u (rs.getD i []))

theorem RowsAt.up {w w' : World} {v : Value} {rs : List (List Int)} (h : RowsAt w v rs) (hU : Up w w') : RowsAt w' v rs := by
  obtain ⟨hl, a, cap, rfl, hc⟩ := h
  refine ⟨hl, a, cap, rfl, fun hne => ?_⟩
  obtain ⟨b, off, rfl, hcell⟩ := hc hne
  refine ⟨b, off, rfl, fun i hi => ?_⟩
  obtain ⟨u, hu, hI⟩ := hcell i hi
  exact ⟨u, by rw [hU.cell (cell_lt hu)]; exact hu, hI.up hU⟩

theorem rows_cell {w w' : World} {a : Option Addr} {n cap : Nat} {rs : List (List Int)} (h : RowsAt w (.slice a n cap) rs) (hU : Up w w') {i : Nat} (hi : i < rs.length) :
    ∃ b off u, a = some ⟨b, off, none⟩ ∧ w'.cell? ⟨b, off + i, none⟩ = some u ∧ IntsAt w' u (rs.getD i []) := by
  obtain ⟨_, a', cap', hv, hc⟩ := h
  injection hv with e1 e2 e3
  subst e1
  obtain ⟨b, off, rfl, hcell⟩ := hc (by rintro rfl; simp at hi)
  obtain ⟨u, hu, hI⟩ := hcell i hi
  exact ⟨b, off, u, rfl, cellUp hU hu, hI.up hU⟩

theorem rows_drop {rs : List (List Int)} {i : Nat} (hi : i < rs.length) : rs.drop i = rs.getD i [] :: rs.drop (i + 1) := by
  rw [List.drop_eq_getElem_cons hi]; simp [hi]
theorem rows_mem {rs : List (List Int)} {i : Nat} (hi : i < rs.length) : rs.getD i [] ∈ rs := by simp [hi]
end Go.Proofs.YtoaomjdpiealfaaGreatDoor
namespace Go.Proofs.YtoaomjdpiealfaaGreatDoor
open Go.ChangeShapes Go.WideShapes Go.ChangeAt Go.RowKit Go.Sp Go.Joins Go.Deep

theorem ints_of_zs {w : World} {a : Addr} {len cap : Nat} {zs : List Int} (hl : len ≤ cap) (hm : cap ≤ maxLen) (hz : zs.length = cap) (hcell : ∀ i, i < zs.length → w.cell? (a.add i) = some (.int .i64 (zs.getD i 0))) :
    IntsAt w (.slice (some a) len cap) (zs.take len) := by
  unfold maxLen at hm
  have hlen : (zs.take len).length = len := by simp; omega
  refine ⟨by omega, some a, cap, by rw [hlen], fun hne => ?_⟩
  have h0 : 0 < len := by
    refine Nat.pos_of_ne_zero fun e => hne ?_
    subst e; simp
  obtain ⟨ab, ao, spot⟩ := a
  have hspot : spot = none := by simpa [Addr.add] using World.cell?_spot (hcell 0 (by omega))
  subst hspot
  refine ⟨ab, ao, rfl, fun i hi => ?_⟩
  rw [hlen] at hi
  have := hcell i (by omega)
  rw [Addr.add_lit] at this
  rw [this]
  simp [hi]

set_option maxRecDepth 100000 in
/-- A slice of integers among the arguments. -/
theorem open_intslice {H : Type} {enc : TypeId × Value → H} {b0 base : Nat} {w : World} {v : Value} {d : DataW H} {p : List MemPlace}
    (hv : Value.okWide Tryz.prog w .any b0 103 v) (h : DataW.Trod enc Tryz.prog w base (fun _ => true) true 103 v d p) :
    ∃ xs : List Int, IntsAt w v xs ∧ (∀ x ∈ xs, -9223372036854775808 ≤ x ∧ x ≤ 9223372036854775807) ∧ Room v := by
  obtain ⟨a1, len, cap, rfl⟩ := okWide_slice Tryz.underlying103 hv
  obtain ⟨fuel, hf⟩ := h
  rcases open_ints Tryz.underlying103 Tryz.underlying3 cellsInt hf with ⟨hcs, hx⟩ | ⟨a, len', cap', zs, hcs, _, hl, hm, hz, hx, hcell, hwz⟩
  · simp [Value.cells] at hcs
    obtain ⟨rfl, rfl, rfl⟩ := hcs
    exact ⟨[], ⟨by simp, none, 0, rfl, fun h => absurd rfl h⟩, (fun x hx => by cases hx), _, _, _, rfl, Nat.le_refl _, by omega, fun _ => rfl⟩
  · simp [Value.cells] at hcs
    obtain ⟨rfl, rfl, rfl⟩ := hcs
    simp only [if_true] at hz
    exact ⟨zs.take len, ints_of_zs hl hm hz hcell, (fun x hx => bounds_i64 (hwz x (List.mem_of_mem_take hx))), _, _, _, rfl, hl, by unfold maxLen at hm; omega, fun h => by cases h⟩

set_option maxRecDepth 100000 in
/-- Bases among the arguments: six numbers. -/
theorem open_bases {H : Type} {enc : TypeId × Value → H} {r : Reach} {b0 base : Nat} {spare : Nat → Bool} {held : Bool} {w : World} {v : Value} {d : DataW H} {p : List MemPlace}
    (hv : Value.okWide Tryz.prog w r b0 49 v) (h : DataW.Trod enc Tryz.prog w base spare held 49 v d p) :
    ∃ P Q G A B C : Int, v = .agg #[.int .i64 P, .int .i64 Q, .int .i64 G, .int .i64 A, .int .i64 B, .int .i64 C] ∧ (-9223372036854775808 ≤ P ∧ P ≤ 9223372036854775807) ∧ (-9223372036854775808 ≤ Q ∧ Q ≤ 9223372036854775807) ∧ (-9223372036854775808 ≤ G ∧ G ≤ 9223372036854775807) ∧
      (-9223372036854775808 ≤ A ∧ A ≤ 9223372036854775807) ∧ (-9223372036854775808 ≤ B ∧ B ≤ 9223372036854775807) ∧ (-9223372036854775808 ≤ C ∧ C ≤ 9223372036854775807) := by
  obtain ⟨cs, rfl, hsz⟩ := okWide_struct Tryz.underlying49 hv
  have hC : Tryz.prog.cellsOf 49 = 6 := by kernel_rfl
  obtain ⟨l⟩ := cs
  match l, hsz.trans hC with
  | [c0, c1, c2, c3, c4, c5], _ =>
    obtain ⟨fuel, hf⟩ := h
    obtain ⟨xs, n, _, hx, _, hlen, hg⟩ := DataW.trod_struct Tryz.underlying49 hf
    match xs, hlen with
    | [y0, y1, y2, y3], _ =>
      have f0 := hg 0 _ rfl
      have f1 := hg 1 _ rfl
      have f2 := hg 2 _ rfl
      have f3 := hg 3 _ rfl
      simp [Value.cells, cellsGroup, cellsInt] at f0 f1 f2 f3
      obtain ⟨zs, m, _, hz, _, hzl, hzg⟩ := DataW.trod_struct Tryz.underlying23 f0
      match zs, hzl with
      | [z0, z1, z2], _ =>
        have e0 := hzg 0 _ rfl
        have e1 := hzg 1 _ rfl
        have e2 := hzg 2 _ rfl
        simp [cellsInt] at e0 e1 e2
        obtain ⟨q0, h0, rfl, w0⟩ := DataW.trod_int Tryz.underlying3 e0
        obtain ⟨q1, h1, rfl, w1⟩ := DataW.trod_int Tryz.underlying3 e1
        obtain ⟨q2, h2, rfl, w2⟩ := DataW.trod_int Tryz.underlying3 e2
        obtain ⟨q3, h3, rfl, w3⟩ := DataW.trod_int Tryz.underlying3 f1
        obtain ⟨q4, h4, rfl, w4⟩ := DataW.trod_int Tryz.underlying3 f2
        obtain ⟨q5, h5, rfl, w5⟩ := DataW.trod_int Tryz.underlying3 f3
        simp at h0 h1 h2 h3 h4 h5
        subst h0 h1 h2 h3 h4 h5
        exact ⟨q0, q1, q2, q3, q4, q5, rfl, bounds_i64 w0, bounds_i64 w1, bounds_i64 w2, bounds_i64 w3, bounds_i64 w4, bounds_i64 w5⟩

set_option maxRecDepth 100000 in
/-- A byte among the arguments. -/
theorem open_u8 {H : Type} {enc : TypeId × Value → H} {r : Reach} {b0 base : Nat} {spare : Nat → Bool} {held : Bool} {w : World} {v : Value} {d : DataW H} {p : List MemPlace}
    (hv : Value.okWide Tryz.prog w r b0 5 v) (h : DataW.Trod enc Tryz.prog w base spare held 5 v d p) :
    ∃ x : Int, v = .int .u8 x ∧ 0 ≤ x ∧ x ≤ 255 := by
  obtain ⟨x, rfl, rfl, rfl, wx⟩ := open_int Tryz.underlying5 hv h
  have a : IntKind.u8.min = 0 := by decide
  have b : IntKind.u8.max = 255 := by decide
  simp [Lit.wf, a, b] at wx
  exact ⟨x, rfl, by omega, by omega⟩
end Go.Proofs.YtoaomjdpiealfaaGreatDoor
namespace Go.Proofs.YtoaomjdpiealfaaGreatDoor
open Go.ChangeShapes Go.WideShapes Go.ChangeAt Go.RowKit Go.Sp

set_option maxRecDepth 100000 in
theorem open_key {H : Type} {enc : TypeId × Value → H} {r : Reach} {b0 base : Nat} {spare : Nat → Bool} {held : Bool} {w : World} {v : Value} {d : DataW H} {p : List MemPlace}
    (hv : Value.okWide Tryz.prog w r b0 51 v) (h : DataW.Trod enc Tryz.prog w base spare held 51 v d p) :
    ∃ x0 x1 x2 : Int, v = .agg #[.int .i64 x0, .int .i64 x1, .int .i64 x2] ∧ (-9223372036854775808 ≤ x0 ∧ x0 ≤ 9223372036854775807) ∧ (-9223372036854775808 ≤ x1 ∧ x1 ≤ 9223372036854775807) ∧ (-9223372036854775808 ≤ x2 ∧ x2 ≤ 9223372036854775807) := by
  obtain ⟨cs, rfl, hsz⟩ := okWide_struct Tryz.underlying51 hv
  have hC : Tryz.prog.cellsOf 51 = 3 := by kernel_rfl
  obtain ⟨l⟩ := cs
  match l, hsz.trans hC with
  | [c0, c1, c2], _ =>
    obtain ⟨fuel, hf⟩ := h
    obtain ⟨xs, n, _, hx, _, hlen, hg⟩ := DataW.trod_struct Tryz.underlying51 hf
    match xs, hlen with
    | [y0, y1, y2], _ =>
      have f0 := hg 0 _ rfl
      have f1 := hg 1 _ rfl
      have f2 := hg 2 _ rfl
      simp [Value.cells, cellsInt] at f0 f1 f2
      obtain ⟨a0, e0, rfl, w0⟩ := DataW.trod_int Tryz.underlying3 f0
      obtain ⟨a1, e1, rfl, w1⟩ := DataW.trod_int Tryz.underlying3 f1
      obtain ⟨a2, e2, rfl, w2⟩ := DataW.trod_int Tryz.underlying3 f2
      simp at e0 e1 e2
      subst e0 e1 e2
      exact ⟨a0, a1, a2, rfl, bounds_i64 w0, bounds_i64 w1, bounds_i64 w2⟩

set_option maxRecDepth 100000 in
theorem open_sign {H : Type} {enc : TypeId × Value → H} {r : Reach} {b0 base : Nat} {spare : Nat → Bool} {held : Bool} {w : World} {v : Value} {d : DataW H} {p : List MemPlace}
    (hv : Value.okWide Tryz.prog w r b0 57 v) (h : DataW.Trod enc Tryz.prog w base spare held 57 v d p) :
    ∃ x0 x1 x2 x3 : Int, v = .agg #[.int .i64 x0, .int .i64 x1, .int .i64 x2, .int .i64 x3] ∧ (-9223372036854775808 ≤ x0 ∧ x0 ≤ 9223372036854775807) ∧ (-9223372036854775808 ≤ x1 ∧ x1 ≤ 9223372036854775807) ∧ (-9223372036854775808 ≤ x2 ∧ x2 ≤ 9223372036854775807) ∧ (-9223372036854775808 ≤ x3 ∧ x3 ≤ 9223372036854775807) := by
  obtain ⟨cs, rfl, hsz⟩ := okWide_struct Tryz.underlying57 hv
  have hC : Tryz.prog.cellsOf 57 = 4 := by kernel_rfl
  obtain ⟨l⟩ := cs
  match l, hsz.trans hC with
  | [c0, c1, c2, c3], _ =>
    obtain ⟨fuel, hf⟩ := h
    obtain ⟨xs, n, _, hx, _, hlen, hg⟩ := DataW.trod_struct Tryz.underlying57 hf
    match xs, hlen with
    | [y0, y1, y2, y3], _ =>
      have f0 := hg 0 _ rfl
      have f1 := hg 1 _ rfl
      have f2 := hg 2 _ rfl
      have f3 := hg 3 _ rfl
      simp [Value.cells, cellsInt] at f0 f1 f2 f3
      obtain ⟨a0, e0, rfl, w0⟩ := DataW.trod_int Tryz.underlying3 f0
      obtain ⟨a1, e1, rfl, w1⟩ := DataW.trod_int Tryz.underlying3 f1
      obtain ⟨a2, e2, rfl, w2⟩ := DataW.trod_int Tryz.underlying3 f2
      obtain ⟨a3, e3, rfl, w3⟩ := DataW.trod_int Tryz.underlying3 f3
      simp at e0 e1 e2 e3
      subst e0 e1 e2 e3
      exact ⟨a0, a1, a2, a3, rfl, bounds_i64 w0, bounds_i64 w1, bounds_i64 w2, bounds_i64 w3⟩

set_option maxRecDepth 100000 in
theorem open_view {H : Type} {enc : TypeId × Value → H} {r : Reach} {b0 base : Nat} {spare : Nat → Bool} {held : Bool} {w : World} {v : Value} {d : DataW H} {p : List MemPlace}
    (hv : Value.okWide Tryz.prog w r b0 53 v) (h : DataW.Trod enc Tryz.prog w base spare held 53 v d p) :
    ∃ x0 x1 x2 x3 x4 x5 : Int, v = .agg #[.int .i64 x0, .int .i64 x1, .int .i64 x2, .int .i64 x3, .int .i64 x4, .int .i64 x5] ∧ (-9223372036854775808 ≤ x0 ∧ x0 ≤ 9223372036854775807) ∧ (-9223372036854775808 ≤ x1 ∧ x1 ≤ 9223372036854775807) ∧ (-9223372036854775808 ≤ x2 ∧ x2 ≤ 9223372036854775807) ∧ (-9223372036854775808 ≤ x3 ∧ x3 ≤ 9223372036854775807) ∧ (-9223372036854775808 ≤ x4 ∧ x4 ≤ 9223372036854775807) ∧ (-9223372036854775808 ≤ x5 ∧ x5 ≤ 9223372036854775807) := by
  obtain ⟨cs, rfl, hsz⟩ := okWide_struct Tryz.underlying53 hv
  have hC : Tryz.prog.cellsOf 53 = 6 := by kernel_rfl
  obtain ⟨l⟩ := cs
  match l, hsz.trans hC with
  | [c0, c1, c2, c3, c4, c5], _ =>
    obtain ⟨fuel, hf⟩ := h
    obtain ⟨xs, n, _, hx, _, hlen, hg⟩ := DataW.trod_struct Tryz.underlying53 hf
    match xs, hlen with
    | [y0, y1, y2, y3, y4, y5], _ =>
      have f0 := hg 0 _ rfl
      have f1 := hg 1 _ rfl
      have f2 := hg 2 _ rfl
      have f3 := hg 3 _ rfl
      have f4 := hg 4 _ rfl
      have f5 := hg 5 _ rfl
      simp [Value.cells, cellsInt] at f0 f1 f2 f3 f4 f5
      obtain ⟨a0, e0, rfl, w0⟩ := DataW.trod_int Tryz.underlying3 f0
      obtain ⟨a1, e1, rfl, w1⟩ := DataW.trod_int Tryz.underlying3 f1
      obtain ⟨a2, e2, rfl, w2⟩ := DataW.trod_int Tryz.underlying3 f2
      obtain ⟨a3, e3, rfl, w3⟩ := DataW.trod_int Tryz.underlying3 f3
      obtain ⟨a4, e4, rfl, w4⟩ := DataW.trod_int Tryz.underlying3 f4
      obtain ⟨a5, e5, rfl, w5⟩ := DataW.trod_int Tryz.underlying3 f5
      simp at e0 e1 e2 e3 e4 e5
      subst e0 e1 e2 e3 e4 e5
      exact ⟨a0, a1, a2, a3, a4, a5, rfl, bounds_i64 w0, bounds_i64 w1, bounds_i64 w2, bounds_i64 w3, bounds_i64 w4, bounds_i64 w5⟩

set_option maxRecDepth 100000 in
theorem open_factors {H : Type} {enc : TypeId × Value → H} {r : Reach} {b0 base : Nat} {spare : Nat → Bool} {held : Bool} {w : World} {v : Value} {d : DataW H} {p : List MemPlace}
    (hv : Value.okWide Tryz.prog w r b0 59 v) (h : DataW.Trod enc Tryz.prog w base spare held 59 v d p) :
    ∃ x0 x1 x2 : Int, v = .agg #[.int .i64 x0, .int .i64 x1, .int .i64 x2] ∧ (-9223372036854775808 ≤ x0 ∧ x0 ≤ 9223372036854775807) ∧ (-9223372036854775808 ≤ x1 ∧ x1 ≤ 9223372036854775807) ∧ (-9223372036854775808 ≤ x2 ∧ x2 ≤ 9223372036854775807) := by
  obtain ⟨cs, rfl, hsz⟩ := okWide_struct Tryz.underlying59 hv
  have hC : Tryz.prog.cellsOf 59 = 3 := by kernel_rfl
  obtain ⟨l⟩ := cs
  match l, hsz.trans hC with
  | [c0, c1, c2], _ =>
    obtain ⟨fuel, hf⟩ := h
    obtain ⟨xs, n, _, hx, _, hlen, hg⟩ := DataW.trod_struct Tryz.underlying59 hf
    match xs, hlen with
    | [y0, y1, y2], _ =>
      have f0 := hg 0 _ rfl
      have f1 := hg 1 _ rfl
      have f2 := hg 2 _ rfl
      simp [Value.cells, cellsInt] at f0 f1 f2
      obtain ⟨a0, e0, rfl, w0⟩ := DataW.trod_int Tryz.underlying3 f0
      obtain ⟨a1, e1, rfl, w1⟩ := DataW.trod_int Tryz.underlying3 f1
      obtain ⟨a2, e2, rfl, w2⟩ := DataW.trod_int Tryz.underlying3 f2
      simp at e0 e1 e2
      subst e0 e1 e2
      exact ⟨a0, a1, a2, rfl, bounds_i64 w0, bounds_i64 w1, bounds_i64 w2⟩
end Go.Proofs.YtoaomjdpiealfaaGreatDoor
namespace Go.Sp

/-- A word rotated to the right. -/
def rotr (x : Int) (n : Nat) : Int := bits .or .u32 (x / 2 ^ n) (IntKind.u32.wrap (x * 2 ^ (32 - n)))
def sg0 (x : Int) : Int := bits .xor .u32 (bits .xor .u32 (rotr x 7) (rotr x 18)) (x / 8)
def sg1 (x : Int) : Int := bits .xor .u32 (bits .xor .u32 (rotr x 17) (rotr x 19)) (x / 1024)
def bs0 (x : Int) : Int := bits .xor .u32 (bits .xor .u32 (rotr x 2) (rotr x 13)) (rotr x 22)
def bs1 (x : Int) : Int := bits .xor .u32 (bits .xor .u32 (rotr x 6) (rotr x 11)) (rotr x 25)
def chs (e f g : Int) : Int := bits .xor .u32 (bits .and .u32 e f) (bits .and .u32 (bits .xor .u32 4294967295 e) g)
def maj (a b c : Int) : Int := bits .xor .u32 (bits .xor .u32 (bits .and .u32 a b) (bits .and .u32 a c)) (bits .and .u32 b c)
/-- A sum of words. -/
def plus (a b : Int) : Int := IntKind.u32.wrap (a + b)

theorem u32_range (n : Int) : 0 ≤ IntKind.u32.wrap n ∧ IntKind.u32.wrap n ≤ 4294967295 := by
  rw [IntKind.wrap_u32]; omega
theorem bits_range (op : BinOp) (a b : Int) : 0 ≤ bits op .u32 a b ∧ bits op .u32 a b ≤ 4294967295 := u32_range _
theorem rotr_range (x : Int) (n : Nat) : 0 ≤ rotr x n ∧ rotr x n ≤ 4294967295 := bits_range _ _ _
theorem plus_range (a b : Int) : 0 ≤ plus a b ∧ plus a b ≤ 4294967295 := u32_range _

theorem bits_or_comm (a b : Int) : bits .or .u32 a b = bits .or .u32 b a := by
  show IntKind.u32.wrap ((BitVec.ofInt 32 a ||| BitVec.ofInt 32 b).toNat : Int) = IntKind.u32.wrap ((BitVec.ofInt 32 b ||| BitVec.ofInt 32 a).toNat : Int)
  rw [BitVec.or_comm]

/-- The k-th word of a block of bytes. -/
def wordB (b : Nat → Int) (k : Nat) : Int := ((b (4 * k) * 256 + b (4 * k + 1)) * 256 + b (4 * k + 2)) * 256 + b (4 * k + 3)

/-- The words of a block. -/
def wAt (b : Nat → Int) (t : Nat) : Int :=
  if t < 16 then wordB b t else plus (plus (plus (wAt b (t - 16)) (sg0 (wAt b (t - 15)))) (wAt b (t - 7))) (sg1 (wAt b (t - 2)))
termination_by t
decreasing_by all_goals omega

theorem wAt_low {b : Nat → Int} {t : Nat} (h : t < 16) : wAt b t = wordB b t := by rw [wAt, if_pos h]
theorem wAt_high {b : Nat → Int} {t : Nat} (h : 16 ≤ t) : wAt b t = plus (plus (plus (wAt b (t - 16)) (sg0 (wAt b (t - 15)))) (wAt b (t - 7))) (sg1 (wAt b (t - 2))) := by
  rw [wAt, if_neg (by omega)]

/-- Bytes. -/
def Byt (b : Nat → Int) : Prop := ∀ i, 0 ≤ b i ∧ b i ≤ 255

theorem wordB_range {b : Nat → Int} (h : Byt b) (k : Nat) : 0 ≤ wordB b k ∧ wordB b k ≤ 4294967295 := by
  have h0 := h (4 * k)
  have h1 := h (4 * k + 1)
  have h2 := h (4 * k + 2)
  have h3 := h (4 * k + 3)
  unfold wordB; omega

theorem wAt_range {b : Nat → Int} (h : Byt b) (t : Nat) : 0 ≤ wAt b t ∧ wAt b t ≤ 4294967295 := by
  by_cases ht : t < 16
  · rw [wAt_low ht]; exact wordB_range h t
  · rw [wAt_high (by omega)]; exact plus_range _ _

/-- Eight words. -/
structure St where
  (a b c d e f g h : Int)

def St.get (s : St) : Nat → Int
  | 0 => s.a | 1 => s.b | 2 => s.c | 3 => s.d | 4 => s.e | 5 => s.f | 6 => s.g | _ => s.h

/-- The constants of the rounds. -/
def shaK : List Int := [0x428a2f98, 0x71374491, 0xb5c0fbcf, 0xe9b5dba5, 0x3956c25b, 0x59f111f1, 0x923f82a4, 0xab1c5ed5,
  0xd807aa98, 0x12835b01, 0x243185be, 0x550c7dc3, 0x72be5d74, 0x80deb1fe, 0x9bdc06a7, 0xc19bf174,
  0xe49b69c1, 0xefbe4786, 0x0fc19dc6, 0x240ca1cc, 0x2de92c6f, 0x4a7484aa, 0x5cb0a9dc, 0x76f988da,
  0x983e5152, 0xa831c66d, 0xb00327c8, 0xbf597fc7, 0xc6e00bf3, 0xd5a79147, 0x06ca6351, 0x14292967,
  0x27b70a85, 0x2e1b2138, 0x4d2c6dfc, 0x53380d13, 0x650a7354, 0x766a0abb, 0x81c2c92e, 0x92722c85,
  0xa2bfe8a1, 0xa81a664b, 0xc24b8b70, 0xc76c51a3, 0xd192e819, 0xd6990624, 0xf40e3585, 0x106aa070,
  0x19a4c116, 0x1e376c08, 0x2748774c, 0x34b0bcb5, 0x391c0cb3, 0x4ed8aa4a, 0x5b9cca4f, 0x682e6ff3,
  0x748f82ee, 0x78a5636f, 0x84c87814, 0x8cc70208, 0x90befffa, 0xa4506ceb, 0xbef9a3f7, 0xc67178f2]

def shaStart : St := ⟨0x6a09e667, 0xbb67ae85, 0x3c6ef372, 0xa54ff53a, 0x510e527f, 0x9b05688c, 0x1f83d9ab, 0x5be0cd19⟩

/-- What a round adds. -/
def rndX (s : St) (k w : Int) : Int := plus (plus (plus (plus s.h (bs1 s.e)) (chs s.e s.f s.g)) k) w
def rndY (s : St) : Int := plus (bs0 s.a) (maj s.a s.b s.c)
def rnd (s : St) (k w : Int) : St := ⟨plus (rndX s k w) (rndY s), s.a, s.b, s.c, plus s.d (rndX s k w), s.e, s.f, s.g⟩

/-- The state after t rounds over a block. -/
def rnds (b : Nat → Int) (s : St) : Nat → St
  | 0 => s
  | t + 1 => rnd (rnds b s t) (shaK.getD t 0) (wAt b t)

/-- A block mixed into the state. -/
def mixS (b : Nat → Int) (s : St) : St :=
  let v := rnds b s 64
  ⟨plus s.a v.a, plus s.b v.b, plus s.c v.c, plus s.d v.d, plus s.e v.e, plus s.f v.f, plus s.g v.g, plus s.h v.h⟩

theorem mixS_get (b : Nat → Int) (s : St) (i : Nat) : (mixS b s).get i = plus (s.get i) ((rnds b s 64).get i) := by
  unfold St.get mixS
  split <;> rfl

/-- A number in n bytes, the highest first. -/
def beL (n : Nat) (x : Int) : List Int := (List.range n).map fun i => x / 2 ^ (8 * (n - 1 - i)) % 256

theorem beL_length (n : Nat) (x : Int) : (beL n x).length = n := by simp [beL]

/-- The padded form. -/
def padL (xs : List Int) : List Int := xs ++ [128] ++ List.replicate ((119 - xs.length % 64) % 64) 0 ++ beL 8 (8 * xs.length)

theorem padL_length (xs : List Int) : (padL xs).length % 64 = 0 ∧ 64 ≤ (padL xs).length ∧ (padL xs).length ≤ xs.length + 72 := by
  simp [padL, beL_length]; omega

/-- A block of bytes. -/
def blkAt (p : List Int) (k : Nat) : Nat → Int := fun j => p.getD (64 * k + j) 0

/-- The state after k blocks. -/
def blocksS (p : List Int) : Nat → St
  | 0 => shaStart
  | k + 1 => mixS (blkAt p k) (blocksS p k)

/-- The bytes of a state. -/
def outB (s : St) (i : Nat) : Int := s.get (i / 4) / 2 ^ (24 - 8 * (i % 4)) % 256

/-- The digest of bytes. -/
def shaB (xs : List Int) : Nat → Int := outB (blocksS (padL xs) ((padL xs).length / 64))

/-- The 32 bytes of a digest as a list. -/
def hList (h : Nat → Int) : List Int := (List.range 32).map h
theorem hList_length (h : Nat → Int) : (hList h).length = 32 := by simp [hList]

/-- The tagged digest. -/
def tagB (tag xs : List Int) : Nat → Int := shaB (hList (shaB tag) ++ hList (shaB tag) ++ xs)

theorem outB_range (s : St) (i : Nat) : 0 ≤ outB s i ∧ outB s i ≤ 255 := by
  unfold outB
  constructor
  · exact Int.emod_nonneg _ (by decide)
  · have := Int.emod_lt_of_pos (s.get (i / 4) / 2 ^ (24 - 8 * (i % 4))) (show (0 : Int) < 256 by decide); omega
theorem shaB_range (xs : List Int) (i : Nat) : 0 ≤ shaB xs i ∧ shaB xs i ≤ 255 := outB_range _ _
theorem tagB_range (t xs : List Int) (i : Nat) : 0 ≤ tagB t xs i ∧ tagB t xs i ≤ 255 := outB_range _ _

/-- The number of a digest modulo m, of its first k bytes. -/
def numB (h : Nat → Int) (m : Int) : Nat → Int
  | 0 => 0
  | k + 1 => (numB h m k * 256 + h k) % m
def numH (h : Nat → Int) (m : Int) : Int := numB h m 16

theorem numB_range {h : Nat → Int} {m : Int} (hm : 0 < m) : ∀ k, 0 ≤ numB h m k ∧ numB h m k < m
  | 0 => ⟨Int.le_refl _, hm⟩
  | k + 1 => ⟨Int.emod_nonneg _ (by omega), Int.emod_lt_of_pos _ hm⟩

end Go.Sp
