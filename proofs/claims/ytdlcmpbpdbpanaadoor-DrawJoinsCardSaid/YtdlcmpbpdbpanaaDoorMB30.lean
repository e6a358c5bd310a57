/- Arguments opened: slices of integers, rows of them, tables, bases. Structs of integers among the arguments. Digests and sources among the arguments; the tables of package digest. Slices of bytes, signatures, and pairs among the arguments. -/
import Derived.Test.YtdlcmpbpdbpanaaDoorMB29
import Derived.Test.YtdlcmpbpdbpanaaDoorMB23
import Derived.Test.YtdlcmpbpdbpanaaDoorMB6
import Derived.Deep.Matrix
namespace Go.Proofs.YtdlcmpbpdbpanaaDoor
open Go.ChangeShapes Go.WideShapes Go.ChangeAt Go.RowKit Go.Sp Go.Joins Go.Deep

theorem ints_of_zs {w : World} {a : Addr} {len cap : Nat} {zs : List Int} (hl : len ≤ cap) (hm : cap ≤ maxLen) (hz : zs.length = cap) (hcell : ∀ i, i < zs.length → w.cell? (a.add i) = some (.int .i64 (zs.getD i 0))) :
    IntsAt w (.slice (some a) len cap) (zs.take len) := by
  unfold maxLen at hm
  have hlen : (zs.take len).length = len := by simp; omega
  refine ⟨by omega, some a, cap, by rw [hlen], fun hne => ?_⟩
  have h0 : 0 < len := by
    refine Nat.pos_of_ne_zero fun e => hne ?_
    subst e; simp
  obtain ⟨ab, ao, spot⟩ := a
  have hspot : spot = none := by simpa [Addr.add] using World.cell?_spot (hcell 0 (by omega))
  subst hspot
  refine ⟨ab, ao, rfl, fun i hi => ?_⟩
  rw [hlen] at hi
  have := hcell i (by omega)
  rw [Addr.add_lit] at this
  rw [this]
  simp [hi]

set_option maxRecDepth 100000 in
/-- A slice of integers among the arguments. -/
theorem open_intslice {H : Type} {enc : TypeId × Value → H} {b0 base : Nat} {w : World} {v : Value} {d : DataW H} {p : List MemPlace}
    (hv : Value.okWide Tryd.prog w .any b0 44 v) (h : DataW.Trod enc Tryd.prog w base (fun _ => true) true 44 v d p) :
    ∃ xs : List Int, IntsAt w v xs ∧ (∀ x ∈ xs, -9223372036854775808 ≤ x ∧ x ≤ 9223372036854775807) ∧ Room v := by
  obtain ⟨a1, len, cap, rfl⟩ := okWide_slice Tryd.underlying44 hv
  obtain ⟨fuel, hf⟩ := h
  rcases open_ints Tryd.underlying44 Tryd.underlying3 cellsInt hf with ⟨hcs, hx⟩ | ⟨a, len', cap', zs, hcs, _, hl, hm, hz, hx, hcell, hwz⟩
  · simp [Value.cells] at hcs
    obtain ⟨rfl, rfl, rfl⟩ := hcs
    exact ⟨[], ⟨by simp, none, 0, rfl, fun h => absurd rfl h⟩, (fun x hx => by cases hx), _, _, _, rfl, Nat.le_refl _, by omega, fun _ => rfl⟩
  · simp [Value.cells] at hcs
    obtain ⟨rfl, rfl, rfl⟩ := hcs
    simp only [if_true] at hz
    exact ⟨zs.take len, ints_of_zs hl hm hz hcell, (fun x hx => bounds_i64 (hwz x (List.mem_of_mem_take hx))), _, _, _, rfl, hl, by unfold maxLen at hm; omega, fun h => by cases h⟩

set_option maxRecDepth 100000 in
/-- Bases among the arguments: six numbers. -/
theorem open_bases {H : Type} {enc : TypeId × Value → H} {r : Reach} {b0 base : Nat} {spare : Nat → Bool} {held : Bool} {w : World} {v : Value} {d : DataW H} {p : List MemPlace}
    (hv : Value.okWide Tryd.prog w r b0 54 v) (h : DataW.Trod enc Tryd.prog w base spare held 54 v d p) :
    ∃ P Q G A B C : Int, v = .agg #[.int .i64 P, .int .i64 Q, .int .i64 G, .int .i64 A, .int .i64 B, .int .i64 C] ∧ (-9223372036854775808 ≤ P ∧ P ≤ 9223372036854775807) ∧ (-9223372036854775808 ≤ Q ∧ Q ≤ 9223372036854775807) ∧ (-9223372036854775808 ≤ G ∧ G ≤ 9223372036854775807) ∧
      (-9223372036854775808 ≤ A ∧ A ≤ 9223372036854775807) ∧ (-9223372036854775808 ≤ B ∧ B ≤ 9223372036854775807) ∧ (-9223372036854775808 ≤ C ∧ C ≤ 9223372036854775807) := by
  obtain ⟨cs, rfl, hsz⟩ := okWide_struct Tryd.underlying54 hv
  have hC : Tryd.prog.cellsOf 54 = 6 := by kernel_rfl
  obtain ⟨l⟩ := cs
  match l, hsz.trans hC with
  | [c0, c1, c2, c3, c4, c5], _ =>
    obtain ⟨fuel, hf⟩ := h
    obtain ⟨xs, n, _, hx, _, hlen, hg⟩ := DataW.trod_struct Tryd.underlying54 hf
    match xs, hlen with
    | [y0, y1, y2, y3], _ =>
      have f0 := hg 0 _ rfl
      have f1 := hg 1 _ rfl
      have f2 := hg 2 _ rfl
      have f3 := hg 3 _ rfl
      simp [Value.cells, cellsGroup, cellsInt] at f0 f1 f2 f3
      obtain ⟨zs, m, _, hz, _, hzl, hzg⟩ := DataW.trod_struct Tryd.underlying52 f0
      match zs, hzl with
      | [z0, z1, z2], _ =>
        have e0 := hzg 0 _ rfl
        have e1 := hzg 1 _ rfl
        have e2 := hzg 2 _ rfl
        simp [cellsInt] at e0 e1 e2
        obtain ⟨q0, h0, rfl, w0⟩ := DataW.trod_int Tryd.underlying3 e0
        obtain ⟨q1, h1, rfl, w1⟩ := DataW.trod_int Tryd.underlying3 e1
        obtain ⟨q2, h2, rfl, w2⟩ := DataW.trod_int Tryd.underlying3 e2
        obtain ⟨q3, h3, rfl, w3⟩ := DataW.trod_int Tryd.underlying3 f1
        obtain ⟨q4, h4, rfl, w4⟩ := DataW.trod_int Tryd.underlying3 f2
        obtain ⟨q5, h5, rfl, w5⟩ := DataW.trod_int Tryd.underlying3 f3
        simp at h0 h1 h2 h3 h4 h5
        subst h0 h1 h2 h3 h4 h5
        exact ⟨q0, q1, q2, q3, q4, q5, rfl, bounds_i64 w0, bounds_i64 w1, bounds_i64 w2, bounds_i64 w3, bounds_i64 w4, bounds_i64 w5⟩

set_option maxRecDepth 100000 in
/-- A byte among the arguments. -/
theorem open_u8 {H : Type} {enc : TypeId × Value → H} {r : Reach} {b0 base : Nat} {spare : Nat → Bool} {held : Bool} {w : World} {v : Value} {d : DataW H} {p : List MemPlace}
    (hv : Value.okWide Tryd.prog w r b0 5 v) (h : DataW.Trod enc Tryd.prog w base spare held 5 v d p) :
    ∃ x : Int, v = .int .u8 x ∧ 0 ≤ x ∧ x ≤ 255 := by
  obtain ⟨x, rfl, rfl, rfl, wx⟩ := open_int Tryd.underlying5 hv h
  have a : IntKind.u8.min = 0 := by decide
  have b : IntKind.u8.max = 255 := by decide
  simp [Lit.wf, a, b] at wx
  exact ⟨x, rfl, by omega, by omega⟩
end Go.Proofs.YtdlcmpbpdbpanaaDoor
namespace Go.Proofs.YtdlcmpbpdbpanaaDoor
open Go.ChangeShapes Go.WideShapes Go.ChangeAt Go.RowKit Go.Sp

set_option maxRecDepth 100000 in
theorem open_key {H : Type} {enc : TypeId × Value → H} {r : Reach} {b0 base : Nat} {spare : Nat → Bool} {held : Bool} {w : World} {v : Value} {d : DataW H} {p : List MemPlace}
    (hv : Value.okWide Tryd.prog w r b0 79 v) (h : DataW.Trod enc Tryd.prog w base spare held 79 v d p) :
    ∃ x0 x1 x2 : Int, v = .agg #[.int .i64 x0, .int .i64 x1, .int .i64 x2] ∧ (-9223372036854775808 ≤ x0 ∧ x0 ≤ 9223372036854775807) ∧ (-9223372036854775808 ≤ x1 ∧ x1 ≤ 9223372036854775807) ∧ (-9223372036854775808 ≤ x2 ∧ x2 ≤ 9223372036854775807) := by
  obtain ⟨cs, rfl, hsz⟩ := okWide_struct Tryd.underlying79 hv
  have hC : Tryd.prog.cellsOf 79 = 3 := by kernel_rfl
  obtain ⟨l⟩ := cs
  match l, hsz.trans hC with
  | [c0, c1, c2], _ =>
    obtain ⟨fuel, hf⟩ := h
    obtain ⟨xs, n, _, hx, _, hlen, hg⟩ := DataW.trod_struct Tryd.underlying79 hf
    match xs, hlen with
    | [y0, y1, y2], _ =>
      have f0 := hg 0 _ rfl
      have f1 := hg 1 _ rfl
      have f2 := hg 2 _ rfl
      simp [Value.cells, cellsInt] at f0 f1 f2
      obtain ⟨a0, e0, rfl, w0⟩ := DataW.trod_int Tryd.underlying3 f0
      obtain ⟨a1, e1, rfl, w1⟩ := DataW.trod_int Tryd.underlying3 f1
      obtain ⟨a2, e2, rfl, w2⟩ := DataW.trod_int Tryd.underlying3 f2
      simp at e0 e1 e2
      subst e0 e1 e2
      exact ⟨a0, a1, a2, rfl, bounds_i64 w0, bounds_i64 w1, bounds_i64 w2⟩

set_option maxRecDepth 100000 in
theorem open_sign {H : Type} {enc : TypeId × Value → H} {r : Reach} {b0 base : Nat} {spare : Nat → Bool} {held : Bool} {w : World} {v : Value} {d : DataW H} {p : List MemPlace}
    (hv : Value.okWide Tryd.prog w r b0 56 v) (h : DataW.Trod enc Tryd.prog w base spare held 56 v d p) :
    ∃ x0 x1 x2 x3 : Int, v = .agg #[.int .i64 x0, .int .i64 x1, .int .i64 x2, .int .i64 x3] ∧ (-9223372036854775808 ≤ x0 ∧ x0 ≤ 9223372036854775807) ∧ (-9223372036854775808 ≤ x1 ∧ x1 ≤ 9223372036854775807) ∧ (-9223372036854775808 ≤ x2 ∧ x2 ≤ 9223372036854775807) ∧ (-9223372036854775808 ≤ x3 ∧ x3 ≤ 9223372036854775807) := by
  obtain ⟨cs, rfl, hsz⟩ := okWide_struct Tryd.underlying56 hv
  have hC : Tryd.prog.cellsOf 56 = 4 := by kernel_rfl
  obtain ⟨l⟩ := cs
  match l, hsz.trans hC with
  | [c0, c1, c2, c3], _ =>
    obtain ⟨fuel, hf⟩ := h
    obtain ⟨xs, n, _, hx, _, hlen, hg⟩ := DataW.trod_struct Tryd.underlying56 hf
    match xs, hlen with
    | [y0, y1, y2, y3], _ =>
      have f0 := hg 0 _ rfl
      have f1 := hg 1 _ rfl
      have f2 := hg 2 _ rfl
      have f3 := hg 3 _ rfl
      simp [Value.cells, cellsInt] at f0 f1 f2 f3
      obtain ⟨a0, e0, rfl, w0⟩ := DataW.trod_int Tryd.underlying3 f0
      obtain ⟨a1, e1, rfl, w1⟩ := DataW.trod_int Tryd.underlying3 f1
      obtain ⟨a2, e2, rfl, w2⟩ := DataW.trod_int Tryd.underlying3 f2
      obtain ⟨a3, e3, rfl, w3⟩ := DataW.trod_int Tryd.underlying3 f3
      simp at e0 e1 e2 e3
      subst e0 e1 e2 e3
      exact ⟨a0, a1, a2, a3, rfl, bounds_i64 w0, bounds_i64 w1, bounds_i64 w2, bounds_i64 w3⟩

end Go.Proofs.YtdlcmpbpdbpanaaDoor
namespace Go.Proofs.YtdlcmpbpdbpanaaDoor
open Go.ChangeShapes Go.WideShapes Go.ChangeAt Go.RowKit Go.Sp

theorem cellsHash : Tryd.prog.cellsOf 23 = 32 := by kernel_rfl

/-- The number in a cell. -/
def intC : Option Value → Int
  | some (.int _ n) => n
  | _ => 0

theorem hash_cells {H : Type} {enc : TypeId × Value → H} {base : Nat} {spare : Nat → Bool} {held : Bool} {w : World} {fuel : Nat} {cs : List Value} {x : DataW H × List MemPlace}
    (h : DataW.trod enc Tryd.prog w base spare held fuel 23 cs = some x) : ∃ root : Nat → Int, cs = (arrK .u8 root 32).toList ∧ Byt root := by
  obtain ⟨xs, m, rfl, hx, hl, hxl, hf⟩ := DataW.trod_array Tryd.underlying23 h
  have hl32 : cs.length = 32 := hl.trans cellsHash
  have hone : ∀ i, i < 32 → ∃ a, cs[i]? = some (.int .u8 a) ∧ 0 ≤ a ∧ a ≤ 255 := fun i hi => by
    have h1 := hf i hi
    rw [cellsU8, Nat.mul_one, List.drop_eq_getElem_cons (by omega), List.take_succ_cons, List.take_zero] at h1
    have hy : xs[i]? = some (xs[i]'(by omega)) := List.getElem?_eq_getElem (by omega)
    rw [hy] at h1
    obtain ⟨a, e0, _, wa⟩ := DataW.trod_int Tryd.underlying5 h1
    have e1 := (List.cons.inj e0).1
    rw [List.getElem?_eq_getElem (by omega), e1]
    have := bounds_u8 wa
    exact ⟨a, rfl, this.1, this.2⟩
  refine ⟨fun i => intC cs[i]?, ?_, fun i => ?_⟩
  · apply List.ext_getElem?
    intro i
    rw [show (arrK .u8 (fun i => intC cs[i]?) 32).toList[i]? = (arrK .u8 (fun i => intC cs[i]?) 32)[i]? from Array.getElem?_toList]
    by_cases hi : i < 32
    · obtain ⟨a, ha, _⟩ := hone i hi
      rw [arrK_get hi, ha]
      rfl
    · rw [List.getElem?_eq_none (by omega), Array.getElem?_eq_none (by rw [arrK_size]; omega)]
  · by_cases hi : i < 32
    · obtain ⟨a, ha, h0, h1⟩ := hone i hi
      show 0 ≤ intC cs[i]? ∧ intC cs[i]? ≤ 255
      rw [ha]
      exact ⟨h0, h1⟩
    · show 0 ≤ intC cs[i]? ∧ intC cs[i]? ≤ 255
      rw [List.getElem?_eq_none (by omega)]
      exact ⟨Int.le_refl _, by decide⟩

set_option maxRecDepth 100000 in
/-- A digest among the arguments. -/
theorem open_hash {H : Type} {enc : TypeId × Value → H} {r : Reach} {b0 base : Nat} {spare : Nat → Bool} {held : Bool} {w : World} {v : Value} {d : DataW H} {p : List MemPlace}
    (hv : Value.okWide Tryd.prog w r b0 23 v) (h : DataW.Trod enc Tryd.prog w base spare held 23 v d p) : ∃ root : Nat → Int, v = hashV root ∧ Byt root := by
  simp only [Value.okWide, Tryd.underlying23] at hv
  obtain ⟨cs, rfl, hsz, _⟩ := hv
  obtain ⟨fuel, hf⟩ := h
  obtain ⟨root, h1, h2⟩ := hash_cells hf
  refine ⟨root, ?_, h2⟩
  have h1 : cs.toList = (arrK .u8 root 32).toList := h1
  rw [Array.toList_inj.1 h1]
  rfl

set_option maxRecDepth 100000 in
/-- A source among the arguments. -/
theorem open_draw {H : Type} {enc : TypeId × Value → H} {r : Reach} {b0 base : Nat} {spare : Nat → Bool} {held : Bool} {w : World} {v : Value} {d : DataW H} {p : List MemPlace}
    (hv : Value.okWide Tryd.prog w r b0 25 v) (h : DataW.Trod enc Tryd.prog w base spare held 25 v d p) : ∃ (seed : Nat → Int) (c : Int), v = drw seed c ∧ Byt seed ∧ -9223372036854775808 ≤ c ∧ c ≤ 9223372036854775807 := by
  obtain ⟨cs, rfl, hsz⟩ := okWide_struct Tryd.underlying25 hv
  have hC : Tryd.prog.cellsOf 25 = 33 := by kernel_rfl
  rw [hC] at hsz
  obtain ⟨fuel, hf⟩ := h
  obtain ⟨xs, n, _, hx, _, hlen, hg⟩ := DataW.trod_struct Tryd.underlying25 hf
  match xs, hlen with
  | [y0, y1], _ =>
    have f0 := hg 0 _ rfl
    have f1 := hg 1 _ rfl
    simp [Value.cells, cellsInt, cellsHash] at f0 f1
    obtain ⟨root, h1, h2⟩ := hash_cells f0
    obtain ⟨a, e0, _, wa⟩ := DataW.trod_int Tryd.underlying3 f1
    have hb := bounds_i64 wa
    refine ⟨root, a, ?_, h2, hb.1, hb.2⟩
    have e2 : cs.toList = (drwA root a).toList := by
      rw [← List.take_append_drop 32 cs.toList]
      have e3 : cs.toList.drop 32 = [.int .i64 a] := by
        have hl : (cs.toList.drop 32).length = 1 := by simp [hsz]
        rw [← e0, List.take_of_length_le (by omega)]
      rw [e3, h1]
      simp [drwA]
    rw [Array.toList_inj.1 e2]
    rfl

theorem gStart : Tryd.prog.globalNamed "specie/digest.start" = some 0 := by kernel_rfl
theorem gStartType : (Tryd.prog.globals[0]?).map (·.type) = some 123 := by kernel_rfl
theorem gConst : Tryd.prog.globalNamed "specie/digest.constants" = some 1 := by kernel_rfl
theorem gConstType : (Tryd.prog.globals[1]?).map (·.type) = some 178 := by kernel_rfl
theorem cellsU32 : Tryd.prog.cellsOf 122 = 1 := by kernel_rfl
theorem cellsStart : Tryd.prog.cellsOf 123 = 8 := by kernel_rfl
theorem cellsConst : Tryd.prog.cellsOf 178 = 64 := by kernel_rfl

abbrev laidSha : List (String × DataW Unit) := [("specie/digest.constants", Rows.laid_specie_digest_constants), ("specie/digest.start", Rows.laid_specie_digest_start)]
abbrev laidFour : List (String × DataW Unit) := [("math/bits.deBruijn64tab", Rows.laid_math_bits_deBruijn64tab), ("specie/prime.bases", Rows.laid_specie_prime_bases), ("specie/digest.constants", Rows.laid_specie_digest_constants), ("specie/digest.start", Rows.laid_specie_digest_start)]

theorem tabS_of {W : World} (h0 : laidMet Tryd.prog laidSha W) : TabS W := by
  have t1 : Lib.TabIs Tryd.prog W "specie/digest.constants" .u32 shaK :=
    Lib.tabIs_of_head (rest := [("specie/digest.start", Rows.laid_specie_digest_start)]) gConst gConstType Tryd.underlying178 Tryd.underlying122 cellsU32 cellsConst h0
  have t2 : Lib.TabIs Tryd.prog W "specie/digest.start" .u32 ((List.range 8).map shaStart.get) :=
    Lib.tabIs_of_head (rest := []) gStart gStartType Tryd.underlying123 Tryd.underlying122 cellsU32 cellsStart (laid_tail h0)
  refine ⟨?_, fun i hi => ?_⟩
  · unfold Lib.TabIs World.var? at t2
    rw [gStart] at t2
    simp only [Option.bind_some] at t2
    split at t2
    · rename_i cs t fr hh
      simp only [Option.some.injEq] at t2
      exact ⟨t, fr, by rw [hh, t2]; rfl⟩
    · cases t2
  · have := t1.cell gConst i (by simpa [shaK] using hi)
    rw [this]

theorem tabS_of_sha {W : World} (h : laidMetH Tryd.prog laidSha W) : TabS W := tabS_of h
theorem tabS_of_four {W : World} (h : laidMetH Tryd.prog laidFour W) : TabS W := by
  have h0 : laidMet Tryd.prog laidFour W := h
  exact tabS_of (laid_tail (laid_tail h0))
theorem tab_of_four {W : World} (h : laidMetH Tryd.prog laidFour W) : Tab W := by
  have h0 : laidMet Tryd.prog laidFour W := h
  have t1 : Lib.TabIs Tryd.prog W "math/bits.deBruijn64tab" .u8 (Lib.deBruijn64tab.map fun n : Nat => (n : Int)) :=
    Lib.tabIs_of_head (rest := [("specie/prime.bases", Rows.laid_specie_prime_bases), ("specie/digest.constants", Rows.laid_specie_digest_constants), ("specie/digest.start", Rows.laid_specie_digest_start)]) gTab gTabType Tryd.underlying224 Tryd.underlying5 cellsU8 cellsTab h0
  have t2 : Lib.TabIs Tryd.prog W "specie/prime.bases" .u64 baseList :=
    Lib.tabIs_of_head (rest := laidSha) gBases gBasesType Tryd.underlying203 Tryd.underlying34 cellsU64 cellsBases (laid_tail h0)
  refine ⟨?_, fun i hi => ?_⟩
  · unfold Lib.TabIs World.var? at t2
    rw [gBases] at t2
    simp only [Option.bind_some] at t2
    split at t2
    · rename_i cs t fr hh
      simp only [Option.some.injEq] at t2
      exact ⟨t, fr, by rw [hh, t2]; rfl⟩
    · cases t2
  · have := t1.cell gTab i (by simpa [Lib.deBruijn64tab] using hi)
    rw [this]
    simp [List.getD_eq_getElem?_getD]
    cases h : Lib.deBruijn64tab[i]? <;> simp
end Go.Proofs.YtdlcmpbpdbpanaaDoor
namespace Go.Proofs.YtdlcmpbpdbpanaaDoor
open Go.ChangeShapes Go.WideShapes Go.ChangeAt Go.RowKit Go.Sp Go.Joins Go.Deep

theorem seq_of_zs {w : World} {a : Addr} {len cap : Nat} {zs : List Int} (hl : len ≤ cap) (hm : cap ≤ maxLen) (hz : zs.length = cap) (hcell : ∀ i, i < zs.length → w.cell? (a.add i) = some (.int .u8 (zs.getD i 0))) :
    SeqAt .u8 w (.slice (some a) len cap) (zs.take len) := by
  unfold maxLen at hm
  have hlen : (zs.take len).length = len := by simp; omega
  refine ⟨some a, cap, by rw [hlen], by omega, by omega, (fun h => by cases h), fun hne => ?_⟩
  have h0 : 0 < len := by
    refine Nat.pos_of_ne_zero fun e => hne ?_
    subst e; simp
  obtain ⟨ab, ao, spot⟩ := a
  have hspot : spot = none := by simpa [Addr.add] using World.cell?_spot (hcell 0 (by omega))
  subst hspot
  refine ⟨ab, ao, rfl, fun i hi => ?_⟩
  rw [hlen] at hi
  have := hcell i (by omega)
  rw [Addr.add_lit] at this
  rw [this]
  simp [hi]

set_option maxRecDepth 100000 in
/-- A slice of bytes among the arguments. -/
theorem open_bytes {H : Type} {enc : TypeId × Value → H} {b0 base : Nat} {w : World} {v : Value} {d : DataW H} {p : List MemPlace}
    (hv : Value.okWide Tryd.prog w .any b0 31 v) (h : DataW.Trod enc Tryd.prog w base (fun _ => true) true 31 v d p) :
    ∃ xs : List Int, SeqAt .u8 w v xs ∧ ∀ x ∈ xs, 0 ≤ x ∧ x ≤ 255 := by
  obtain ⟨a1, len, cap, rfl⟩ := okWide_slice Tryd.underlying31 hv
  obtain ⟨fuel, hf⟩ := h
  rcases open_ints Tryd.underlying31 Tryd.underlying5 cellsU8 hf with ⟨hcs, hx⟩ | ⟨a, len', cap', zs, hcs, _, hl, hm, hz, hx, hcell, hwz⟩
  · simp [Value.cells] at hcs
    obtain ⟨rfl, rfl, rfl⟩ := hcs
    exact ⟨[], seq_none, fun x hx => by cases hx⟩
  · simp [Value.cells] at hcs
    obtain ⟨rfl, rfl, rfl⟩ := hcs
    simp only [if_true] at hz
    exact ⟨zs.take len, seq_of_zs hl hm hz hcell, fun x hx => bounds_u8 (hwz x (List.mem_of_mem_take hx))⟩

set_option maxRecDepth 100000 in
theorem open_sig {H : Type} {enc : TypeId × Value → H} {r : Reach} {b0 base : Nat} {spare : Nat → Bool} {held : Bool} {w : World} {v : Value} {d : DataW H} {p : List MemPlace}
    (hv : Value.okWide Tryd.prog w r b0 64 v) (h : DataW.Trod enc Tryd.prog w base spare held 64 v d p) :
    ∃ x0 x1 : Int, v = .agg #[.int .i64 x0, .int .i64 x1] ∧ (-9223372036854775808 ≤ x0 ∧ x0 ≤ 9223372036854775807) ∧ (-9223372036854775808 ≤ x1 ∧ x1 ≤ 9223372036854775807) := by
  obtain ⟨cs, rfl, hsz⟩ := okWide_struct Tryd.underlying64 hv
  have hC : Tryd.prog.cellsOf 64 = 2 := by kernel_rfl
  obtain ⟨l⟩ := cs
  match l, hsz.trans hC with
  | [c0, c1], _ =>
    obtain ⟨fuel, hf⟩ := h
    obtain ⟨xs, n, _, hx, _, hlen, hg⟩ := DataW.trod_struct Tryd.underlying64 hf
    match xs, hlen with
    | [y0, y1], _ =>
      have f0 := hg 0 _ rfl
      have f1 := hg 1 _ rfl
      simp [Value.cells, cellsInt] at f0 f1
      obtain ⟨a0, e0, rfl, w0⟩ := DataW.trod_int Tryd.underlying3 f0
      obtain ⟨a1, e1, rfl, w1⟩ := DataW.trod_int Tryd.underlying3 f1
      simp at e0 e1
      subst e0 e1
      exact ⟨a0, a1, rfl, bounds_i64 w0, bounds_i64 w1⟩

end Go.Proofs.YtdlcmpbpdbpanaaDoor
