/- Arguments opened: slices of integers, rows of them, tables, bases. Structs of integers among the arguments. Digests and sources among the arguments; the tables of package digest. Slices of bytes, signatures, and pairs among the arguments. Slices of records, and signed lists, among the arguments. -/
import Derived.Test.YtkimojconidhlaaDoorMB18
import Derived.Test.YtkimojconidhlaaDoorMB21
import Derived.Test.YtkimojconidhlaaDoorMB5
import Derived.Deep.Matrix
import Derived.Deep.SlicePairs
namespace Go.Proofs.YtkimojconidhlaaDoor
open Go.ChangeShapes Go.WideShapes Go.ChangeAt Go.RowKit Go.Sp Go.Joins Go.Deep

theorem ints_of_zs {w : World} {a : Addr} {len cap : Nat} {zs : List Int} (hl : len ≤ cap) (hm : cap ≤ maxLen) (hz : zs.length = cap) (hcell : ∀ i, i < zs.length → w.cell? (a.add i) = some (.int .i64 (zs.getD i 0))) :
    IntsAt w (.slice (some a) len cap) (zs.take len) := by
  unfold maxLen at hm
  have hlen : (zs.take len).length = len := by simp; omega
  refine ⟨by omega, some a, cap, by rw [hlen], fun hne => ?_⟩
  have h0 : 0 < len := by
    refine Nat.pos_of_ne_zero fun e => hne ?_
    subst e; simp
  obtain ⟨ab, ao, spot⟩ := a
  have hspot : spot = none := by simpa [Addr.add] using World.cell?_spot (hcell 0 (by omega))
  subst hspot
  refine ⟨ab, ao, rfl, fun i hi => ?_⟩
  rw [hlen] at hi
  have := hcell i (by omega)
  rw [Addr.add_lit] at this
  rw [this]
  simp [hi]

set_option maxRecDepth 100000 in
/-- A slice of integers among the arguments. -/
theorem open_intslice {H : Type} {enc : TypeId × Value → H} {b0 base : Nat} {w : World} {v : Value} {d : DataW H} {p : List MemPlace}
    (hv : Value.okWide Tryd.prog w .any b0 62 v) (h : DataW.Trod enc Tryd.prog w base (fun _ => true) true 62 v d p) :
    ∃ xs : List Int, IntsAt w v xs ∧ (∀ x ∈ xs, -9223372036854775808 ≤ x ∧ x ≤ 9223372036854775807) ∧ Room v := by
  obtain ⟨a1, len, cap, rfl⟩ := okWide_slice Tryd.underlying62 hv
  obtain ⟨fuel, hf⟩ := h
  rcases open_ints Tryd.underlying62 Tryd.underlying3 cellsInt hf with ⟨hcs, hx⟩ | ⟨a, len', cap', zs, hcs, _, hl, hm, hz, hx, hcell, hwz⟩
  · simp [Value.cells] at hcs
    obtain ⟨rfl, rfl, rfl⟩ := hcs
    exact ⟨[], ⟨by simp, none, 0, rfl, fun h => absurd rfl h⟩, (fun x hx => by cases hx), _, _, _, rfl, Nat.le_refl _, by omega, fun _ => rfl⟩
  · simp [Value.cells] at hcs
    obtain ⟨rfl, rfl, rfl⟩ := hcs
    simp only [if_true] at hz
    exact ⟨zs.take len, ints_of_zs hl hm hz hcell, (fun x hx => bounds_i64 (hwz x (List.mem_of_mem_take hx))), _, _, _, rfl, hl, by unfold maxLen at hm; omega, fun h => by cases h⟩

set_option maxRecDepth 100000 in
/-- Bases among the arguments: six numbers. -/
theorem open_bases {H : Type} {enc : TypeId × Value → H} {r : Reach} {b0 base : Nat} {spare : Nat → Bool} {held : Bool} {w : World} {v : Value} {d : DataW H} {p : List MemPlace}
    (hv : Value.okWide Tryd.prog w r b0 25 v) (h : DataW.Trod enc Tryd.prog w base spare held 25 v d p) :
    ∃ P Q G A B C : Int, v = .agg #[.int .i64 P, .int .i64 Q, .int .i64 G, .int .i64 A, .int .i64 B, .int .i64 C] ∧ (-9223372036854775808 ≤ P ∧ P ≤ 9223372036854775807) ∧ (-9223372036854775808 ≤ Q ∧ Q ≤ 9223372036854775807) ∧ (-9223372036854775808 ≤ G ∧ G ≤ 9223372036854775807) ∧
      (-9223372036854775808 ≤ A ∧ A ≤ 9223372036854775807) ∧ (-9223372036854775808 ≤ B ∧ B ≤ 9223372036854775807) ∧ (-9223372036854775808 ≤ C ∧ C ≤ 9223372036854775807) := by
  obtain ⟨cs, rfl, hsz⟩ := okWide_struct Tryd.underlying25 hv
  have hC : Tryd.prog.cellsOf 25 = 6 := by kernel_rfl
  obtain ⟨l⟩ := cs
  match l, hsz.trans hC with
  | [c0, c1, c2, c3, c4, c5], _ =>
    obtain ⟨fuel, hf⟩ := h
    obtain ⟨xs, n, _, hx, _, hlen, hg⟩ := DataW.trod_struct Tryd.underlying25 hf
    match xs, hlen with
    | [y0, y1, y2, y3], _ =>
      have f0 := hg 0 _ rfl
      have f1 := hg 1 _ rfl
      have f2 := hg 2 _ rfl
      have f3 := hg 3 _ rfl
      simp [Value.cells, cellsGroup, cellsInt] at f0 f1 f2 f3
      obtain ⟨zs, m, _, hz, _, hzl, hzg⟩ := DataW.trod_struct Tryd.underlying23 f0
      match zs, hzl with
      | [z0, z1, z2], _ =>
        have e0 := hzg 0 _ rfl
        have e1 := hzg 1 _ rfl
        have e2 := hzg 2 _ rfl
        simp [cellsInt] at e0 e1 e2
        obtain ⟨q0, h0, rfl, w0⟩ := DataW.trod_int Tryd.underlying3 e0
        obtain ⟨q1, h1, rfl, w1⟩ := DataW.trod_int Tryd.underlying3 e1
        obtain ⟨q2, h2, rfl, w2⟩ := DataW.trod_int Tryd.underlying3 e2
        obtain ⟨q3, h3, rfl, w3⟩ := DataW.trod_int Tryd.underlying3 f1
        obtain ⟨q4, h4, rfl, w4⟩ := DataW.trod_int Tryd.underlying3 f2
        obtain ⟨q5, h5, rfl, w5⟩ := DataW.trod_int Tryd.underlying3 f3
        simp at h0 h1 h2 h3 h4 h5
        subst h0 h1 h2 h3 h4 h5
        exact ⟨q0, q1, q2, q3, q4, q5, rfl, bounds_i64 w0, bounds_i64 w1, bounds_i64 w2, bounds_i64 w3, bounds_i64 w4, bounds_i64 w5⟩

set_option maxRecDepth 100000 in
/-- A byte among the arguments. -/
theorem open_u8 {H : Type} {enc : TypeId × Value → H} {r : Reach} {b0 base : Nat} {spare : Nat → Bool} {held : Bool} {w : World} {v : Value} {d : DataW H} {p : List MemPlace}
    (hv : Value.okWide Tryd.prog w r b0 5 v) (h : DataW.Trod enc Tryd.prog w base spare held 5 v d p) :
    ∃ x : Int, v = .int .u8 x ∧ 0 ≤ x ∧ x ≤ 255 := by
  obtain ⟨x, rfl, rfl, rfl, wx⟩ := open_int Tryd.underlying5 hv h
  have a : IntKind.u8.min = 0 := by decide
  have b : IntKind.u8.max = 255 := by decide
  simp [Lit.wf, a, b] at wx
  exact ⟨x, rfl, by omega, by omega⟩
end Go.Proofs.YtkimojconidhlaaDoor
namespace Go.Proofs.YtkimojconidhlaaDoor
open Go.ChangeShapes Go.WideShapes Go.ChangeAt Go.RowKit Go.Sp

set_option maxRecDepth 100000 in
theorem open_key {H : Type} {enc : TypeId × Value → H} {r : Reach} {b0 base : Nat} {spare : Nat → Bool} {held : Bool} {w : World} {v : Value} {d : DataW H} {p : List MemPlace}
    (hv : Value.okWide Tryd.prog w r b0 44 v) (h : DataW.Trod enc Tryd.prog w base spare held 44 v d p) :
    ∃ x0 x1 x2 : Int, v = .agg #[.int .i64 x0, .int .i64 x1, .int .i64 x2] ∧ (-9223372036854775808 ≤ x0 ∧ x0 ≤ 9223372036854775807) ∧ (-9223372036854775808 ≤ x1 ∧ x1 ≤ 9223372036854775807) ∧ (-9223372036854775808 ≤ x2 ∧ x2 ≤ 9223372036854775807) := by
  obtain ⟨cs, rfl, hsz⟩ := okWide_struct Tryd.underlying44 hv
  have hC : Tryd.prog.cellsOf 44 = 3 := by kernel_rfl
  obtain ⟨l⟩ := cs
  match l, hsz.trans hC with
  | [c0, c1, c2], _ =>
    obtain ⟨fuel, hf⟩ := h
    obtain ⟨xs, n, _, hx, _, hlen, hg⟩ := DataW.trod_struct Tryd.underlying44 hf
    match xs, hlen with
    | [y0, y1, y2], _ =>
      have f0 := hg 0 _ rfl
      have f1 := hg 1 _ rfl
      have f2 := hg 2 _ rfl
      simp [Value.cells, cellsInt] at f0 f1 f2
      obtain ⟨a0, e0, rfl, w0⟩ := DataW.trod_int Tryd.underlying3 f0
      obtain ⟨a1, e1, rfl, w1⟩ := DataW.trod_int Tryd.underlying3 f1
      obtain ⟨a2, e2, rfl, w2⟩ := DataW.trod_int Tryd.underlying3 f2
      simp at e0 e1 e2
      subst e0 e1 e2
      exact ⟨a0, a1, a2, rfl, bounds_i64 w0, bounds_i64 w1, bounds_i64 w2⟩

end Go.Proofs.YtkimojconidhlaaDoor
namespace Go.Proofs.YtkimojconidhlaaDoor
open Go.ChangeShapes Go.WideShapes Go.ChangeAt Go.RowKit Go.Sp

theorem cellsHash : Tryd.prog.cellsOf 28 = 32 := by kernel_rfl

/-- The number in a cell. -/
def intC : Option Value → Int
  | some (.int _ n) => n
  | _ => 0

theorem hash_cells {H : Type} {enc : TypeId × Value → H} {base : Nat} {spare : Nat → Bool} {held : Bool} {w : World} {fuel : Nat} {cs : List Value} {x : DataW H × List MemPlace}
    (h : DataW.trod enc Tryd.prog w base spare held fuel 28 cs = some x) : ∃ root : Nat → Int, cs = (arrK .u8 root 32).toList ∧ Byt root := by
  obtain ⟨xs, m, rfl, hx, hl, hxl, hf⟩ := DataW.trod_array Tryd.underlying28 h
  have hl32 : cs.length = 32 := hl.trans cellsHash
  have hone : ∀ i, i < 32 → ∃ a, cs[i]? = some (.int .u8 a) ∧ 0 ≤ a ∧ a ≤ 255 := fun i hi => by
    have h1 := hf i hi
    rw [cellsU8, Nat.mul_one, List.drop_eq_getElem_cons (by omega), List.take_succ_cons, List.take_zero] at h1
    have hy : xs[i]? = some (xs[i]'(by omega)) := List.getElem?_eq_getElem (by omega)
    rw [hy] at h1
    obtain ⟨a, e0, _, wa⟩ := DataW.trod_int Tryd.underlying5 h1
    have e1 := (List.cons.inj e0).1
    rw [List.getElem?_eq_getElem (by omega), e1]
    have := bounds_u8 wa
    exact ⟨a, rfl, this.1, this.2⟩
  refine ⟨fun i => intC cs[i]?, ?_, fun i => ?_⟩
  · apply List.ext_getElem?
    intro i
    rw [show (arrK .u8 (fun i => intC cs[i]?) 32).toList[i]? = (arrK .u8 (fun i => intC cs[i]?) 32)[i]? from Array.getElem?_toList]
    by_cases hi : i < 32
    · obtain ⟨a, ha, _⟩ := hone i hi
      rw [arrK_get hi, ha]
      rfl
    · rw [List.getElem?_eq_none (by omega), Array.getElem?_eq_none (by rw [arrK_size]; omega)]
  · by_cases hi : i < 32
    · obtain ⟨a, ha, h0, h1⟩ := hone i hi
      show 0 ≤ intC cs[i]? ∧ intC cs[i]? ≤ 255
      rw [ha]
      exact ⟨h0, h1⟩
    · show 0 ≤ intC cs[i]? ∧ intC cs[i]? ≤ 255
      rw [List.getElem?_eq_none (by omega)]
      exact ⟨Int.le_refl _, by decide⟩

set_option maxRecDepth 100000 in
/-- A digest among the arguments. -/
theorem open_hash {H : Type} {enc : TypeId × Value → H} {r : Reach} {b0 base : Nat} {spare : Nat → Bool} {held : Bool} {w : World} {v : Value} {d : DataW H} {p : List MemPlace}
    (hv : Value.okWide Tryd.prog w r b0 28 v) (h : DataW.Trod enc Tryd.prog w base spare held 28 v d p) : ∃ root : Nat → Int, v = hashV root ∧ Byt root := by
  simp only [Value.okWide, Tryd.underlying28] at hv
  obtain ⟨cs, rfl, hsz, _⟩ := hv
  obtain ⟨fuel, hf⟩ := h
  obtain ⟨root, h1, h2⟩ := hash_cells hf
  refine ⟨root, ?_, h2⟩
  have h1 : cs.toList = (arrK .u8 root 32).toList := h1
  rw [Array.toList_inj.1 h1]
  rfl

set_option maxRecDepth 100000 in
/-- A source among the arguments. -/
theorem open_draw {H : Type} {enc : TypeId × Value → H} {r : Reach} {b0 base : Nat} {spare : Nat → Bool} {held : Bool} {w : World} {v : Value} {d : DataW H} {p : List MemPlace}
    (hv : Value.okWide Tryd.prog w r b0 30 v) (h : DataW.Trod enc Tryd.prog w base spare held 30 v d p) : ∃ (seed : Nat → Int) (c : Int), v = drw seed c ∧ Byt seed ∧ -9223372036854775808 ≤ c ∧ c ≤ 9223372036854775807 := by
  obtain ⟨cs, rfl, hsz⟩ := okWide_struct Tryd.underlying30 hv
  have hC : Tryd.prog.cellsOf 30 = 33 := by kernel_rfl
  rw [hC] at hsz
  obtain ⟨fuel, hf⟩ := h
  obtain ⟨xs, n, _, hx, _, hlen, hg⟩ := DataW.trod_struct Tryd.underlying30 hf
  match xs, hlen with
  | [y0, y1], _ =>
    have f0 := hg 0 _ rfl
    have f1 := hg 1 _ rfl
    simp [Value.cells, cellsInt, cellsHash] at f0 f1
    obtain ⟨root, h1, h2⟩ := hash_cells f0
    obtain ⟨a, e0, _, wa⟩ := DataW.trod_int Tryd.underlying3 f1
    have hb := bounds_i64 wa
    refine ⟨root, a, ?_, h2, hb.1, hb.2⟩
    have e2 : cs.toList = (drwA root a).toList := by
      rw [← List.take_append_drop 32 cs.toList]
      have e3 : cs.toList.drop 32 = [.int .i64 a] := by
        have hl : (cs.toList.drop 32).length = 1 := by simp [hsz]
        rw [← e0, List.take_of_length_le (by omega)]
      rw [e3, h1]
      simp [drwA]
    rw [Array.toList_inj.1 e2]
    rfl

theorem gStart : Tryd.prog.globalNamed "specie/digest.start" = some 0 := by kernel_rfl
theorem gStartType : (Tryd.prog.globals[0]?).map (·.type) = some 134 := by kernel_rfl
theorem gConst : Tryd.prog.globalNamed "specie/digest.constants" = some 2 := by kernel_rfl
theorem gConstType : (Tryd.prog.globals[2]?).map (·.type) = some 154 := by kernel_rfl
theorem cellsU32 : Tryd.prog.cellsOf 133 = 1 := by kernel_rfl
theorem cellsStart : Tryd.prog.cellsOf 134 = 8 := by kernel_rfl
theorem cellsConst : Tryd.prog.cellsOf 154 = 64 := by kernel_rfl

abbrev laidSha : List (String × DataW Unit) := [("specie/digest.constants", Rows.laid_specie_digest_constants), ("specie/digest.start", Rows.laid_specie_digest_start)]
abbrev laidFour : List (String × DataW Unit) := [("math/bits.deBruijn64tab", Rows.laid_math_bits_deBruijn64tab), ("specie/prime.bases", Rows.laid_specie_prime_bases), ("specie/digest.constants", Rows.laid_specie_digest_constants), ("specie/digest.start", Rows.laid_specie_digest_start)]

theorem tabS_of {W : World} (h0 : laidMet Tryd.prog laidSha W) : TabS W := by
  have t1 : Lib.TabIs Tryd.prog W "specie/digest.constants" .u32 shaK :=
    Lib.tabIs_of_head (rest := [("specie/digest.start", Rows.laid_specie_digest_start)]) gConst gConstType Tryd.underlying154 Tryd.underlying133 cellsU32 cellsConst h0
  have t2 : Lib.TabIs Tryd.prog W "specie/digest.start" .u32 ((List.range 8).map shaStart.get) :=
    Lib.tabIs_of_head (rest := []) gStart gStartType Tryd.underlying134 Tryd.underlying133 cellsU32 cellsStart (laid_tail h0)
  refine ⟨?_, fun i hi => ?_⟩
  · unfold Lib.TabIs World.var? at t2
    rw [gStart] at t2
    simp only [Option.bind_some] at t2
    split at t2
    · rename_i cs t fr hh
      simp only [Option.some.injEq] at t2
      exact ⟨t, fr, by rw [hh, t2]; rfl⟩
    · cases t2
  · have := t1.cell gConst i (by simpa [shaK] using hi)
    rw [this]

theorem tabS_of_sha {W : World} (h : laidMetH Tryd.prog laidSha W) : TabS W := tabS_of h
theorem tabS_of_four {W : World} (h : laidMetH Tryd.prog laidFour W) : TabS W := by
  have h0 : laidMet Tryd.prog laidFour W := h
  exact tabS_of (laid_tail (laid_tail h0))
theorem tab_of_four {W : World} (h : laidMetH Tryd.prog laidFour W) : Tab W := by
  have h0 : laidMet Tryd.prog laidFour W := h
  have t1 : Lib.TabIs Tryd.prog W "math/bits.deBruijn64tab" .u8 (Lib.deBruijn64tab.map fun n : Nat => (n : Int)) :=
    Lib.tabIs_of_head (rest := [("specie/prime.bases", Rows.laid_specie_prime_bases), ("specie/digest.constants", Rows.laid_specie_digest_constants), ("specie/digest.start", Rows.laid_specie_digest_start)]) gTab gTabType Tryd.underlying160 Tryd.underlying5 cellsU8 cellsTab h0
  have t2 : Lib.TabIs Tryd.prog W "specie/prime.bases" .u64 baseList :=
    Lib.tabIs_of_head (rest := laidSha) gBases gBasesType Tryd.underlying147 Tryd.underlying104 cellsU64 cellsBases (laid_tail h0)
  refine ⟨?_, fun i hi => ?_⟩
  · unfold Lib.TabIs World.var? at t2
    rw [gBases] at t2
    simp only [Option.bind_some] at t2
    split at t2
    · rename_i cs t fr hh
      simp only [Option.some.injEq] at t2
      exact ⟨t, fr, by rw [hh, t2]; rfl⟩
    · cases t2
  · have := t1.cell gTab i (by simpa [Lib.deBruijn64tab] using hi)
    rw [this]
    simp [List.getD_eq_getElem?_getD]
    cases h : Lib.deBruijn64tab[i]? <;> simp
end Go.Proofs.YtkimojconidhlaaDoor
namespace Go.Proofs.YtkimojconidhlaaDoor
open Go.ChangeShapes Go.WideShapes Go.ChangeAt Go.RowKit Go.Sp Go.Joins Go.Deep

theorem seq_of_zs {w : World} {a : Addr} {len cap : Nat} {zs : List Int} (hl : len ≤ cap) (hm : cap ≤ maxLen) (hz : zs.length = cap) (hcell : ∀ i, i < zs.length → w.cell? (a.add i) = some (.int .u8 (zs.getD i 0))) :
    SeqAt .u8 w (.slice (some a) len cap) (zs.take len) := by
  unfold maxLen at hm
  have hlen : (zs.take len).length = len := by simp; omega
  refine ⟨some a, cap, by rw [hlen], by omega, by omega, (fun h => by cases h), fun hne => ?_⟩
  have h0 : 0 < len := by
    refine Nat.pos_of_ne_zero fun e => hne ?_
    subst e; simp
  obtain ⟨ab, ao, spot⟩ := a
  have hspot : spot = none := by simpa [Addr.add] using World.cell?_spot (hcell 0 (by omega))
  subst hspot
  refine ⟨ab, ao, rfl, fun i hi => ?_⟩
  rw [hlen] at hi
  have := hcell i (by omega)
  rw [Addr.add_lit] at this
  rw [this]
  simp [hi]

set_option maxRecDepth 100000 in
/-- A slice of bytes among the arguments. -/
theorem open_bytes {H : Type} {enc : TypeId × Value → H} {b0 base : Nat} {w : World} {v : Value} {d : DataW H} {p : List MemPlace}
    (hv : Value.okWide Tryd.prog w .any b0 50 v) (h : DataW.Trod enc Tryd.prog w base (fun _ => true) true 50 v d p) :
    ∃ xs : List Int, SeqAt .u8 w v xs ∧ ∀ x ∈ xs, 0 ≤ x ∧ x ≤ 255 := by
  obtain ⟨a1, len, cap, rfl⟩ := okWide_slice Tryd.underlying50 hv
  obtain ⟨fuel, hf⟩ := h
  rcases open_ints Tryd.underlying50 Tryd.underlying5 cellsU8 hf with ⟨hcs, hx⟩ | ⟨a, len', cap', zs, hcs, _, hl, hm, hz, hx, hcell, hwz⟩
  · simp [Value.cells] at hcs
    obtain ⟨rfl, rfl, rfl⟩ := hcs
    exact ⟨[], seq_none, fun x hx => by cases hx⟩
  · simp [Value.cells] at hcs
    obtain ⟨rfl, rfl, rfl⟩ := hcs
    simp only [if_true] at hz
    exact ⟨zs.take len, seq_of_zs hl hm hz hcell, fun x hx => bounds_u8 (hwz x (List.mem_of_mem_take hx))⟩

set_option maxRecDepth 100000 in
theorem open_sig {H : Type} {enc : TypeId × Value → H} {r : Reach} {b0 base : Nat} {spare : Nat → Bool} {held : Bool} {w : World} {v : Value} {d : DataW H} {p : List MemPlace}
    (hv : Value.okWide Tryd.prog w r b0 33 v) (h : DataW.Trod enc Tryd.prog w base spare held 33 v d p) :
    ∃ x0 x1 : Int, v = .agg #[.int .i64 x0, .int .i64 x1] ∧ (-9223372036854775808 ≤ x0 ∧ x0 ≤ 9223372036854775807) ∧ (-9223372036854775808 ≤ x1 ∧ x1 ≤ 9223372036854775807) := by
  obtain ⟨cs, rfl, hsz⟩ := okWide_struct Tryd.underlying33 hv
  have hC : Tryd.prog.cellsOf 33 = 2 := by kernel_rfl
  obtain ⟨l⟩ := cs
  match l, hsz.trans hC with
  | [c0, c1], _ =>
    obtain ⟨fuel, hf⟩ := h
    obtain ⟨xs, n, _, hx, _, hlen, hg⟩ := DataW.trod_struct Tryd.underlying33 hf
    match xs, hlen with
    | [y0, y1], _ =>
      have f0 := hg 0 _ rfl
      have f1 := hg 1 _ rfl
      simp [Value.cells, cellsInt] at f0 f1
      obtain ⟨a0, e0, rfl, w0⟩ := DataW.trod_int Tryd.underlying3 f0
      obtain ⟨a1, e1, rfl, w1⟩ := DataW.trod_int Tryd.underlying3 f1
      simp at e0 e1
      subst e0 e1
      exact ⟨a0, a1, rfl, bounds_i64 w0, bounds_i64 w1⟩

end Go.Proofs.YtkimojconidhlaaDoor
namespace Go.Proofs.YtkimojconidhlaaDoor
open Go.ChangeShapes Go.WideShapes Go.ChangeAt Go.RowKit Go.Sp Go.Joins Go.Deep
set_option maxHeartbeats 2000000

/-- A record whose three numbers are those of an int. -/
def RecI (r : Rec) : Prop := I64 r.kd ∧ I64 r.nr ∧ I64 r.co
theorem cellsKey : Tryd.prog.cellsOf 44 = 3 := by kernel_rfl
theorem cellsRec : Tryd.prog.cellsOf 46 = 11 := by kernel_rfl
theorem open_rec {H : Type} {enc : TypeId × Value → H} {base n : Nat} {spare : Nat → Bool} {held : Bool} {w : World} {cs : List Value} {x : DataW H × List MemPlace} (hl : cs.length = 11) (h : DataW.trod enc Tryd.prog w base spare held n 46 cs = some x) :
    ∃ r : Rec, cs = r.cells ∧ RecI r := by
  match cs, hl with
  | [c0, c1, c2, c3, c4, c5, c6, c7, c8, c9, c10], _ =>
    obtain ⟨xs, n, _, hx, _, hlen, hg⟩ := DataW.trod_struct Tryd.underlying46 h
    match xs, hlen with
    | [y0, y1, y2, y3, y4, y5, y6, y7, y8], _ =>
      have f0 := hg 0 _ rfl
      have f1 := hg 1 _ rfl
      have f2 := hg 2 _ rfl
      have f3 := hg 3 _ rfl
      have f4 := hg 4 _ rfl
      have f5 := hg 5 _ rfl
      have f6 := hg 6 _ rfl
      have f7 := hg 7 _ rfl
      have f8 := hg 8 _ rfl
      simp [cellsKey, cellsInt] at f0 f1 f2 f3 f4 f5 f6 f7 f8
      obtain ⟨zs, m, _, hz, _, hzl, hzg⟩ := DataW.trod_struct Tryd.underlying44 f5
      match zs, hzl with
      | [z0, z1, z2], _ =>
        have e0 := hzg 0 _ rfl
        have e1 := hzg 1 _ rfl
        have e2 := hzg 2 _ rfl
        simp [cellsInt] at e0 e1 e2
        obtain ⟨q0, h0, rfl, w0⟩ := DataW.trod_int Tryd.underlying3 f0
        obtain ⟨q1, h1, rfl, w1⟩ := DataW.trod_int Tryd.underlying3 f1
        obtain ⟨q2, h2, rfl, w2⟩ := DataW.trod_int Tryd.underlying3 f2
        obtain ⟨q3, h3, rfl, w3⟩ := DataW.trod_int Tryd.underlying3 f3
        obtain ⟨q4, h4, rfl, w4⟩ := DataW.trod_int Tryd.underlying3 f4
        obtain ⟨q5, h5, rfl, w5⟩ := DataW.trod_int Tryd.underlying3 e0
        obtain ⟨q6, h6, rfl, w6⟩ := DataW.trod_int Tryd.underlying3 e1
        obtain ⟨q7, h7, rfl, w7⟩ := DataW.trod_int Tryd.underlying3 e2
        obtain ⟨q8, h8, rfl, w8⟩ := DataW.trod_int Tryd.underlying3 f6
        obtain ⟨q9, h9, rfl, w9⟩ := DataW.trod_int Tryd.underlying3 f7
        obtain ⟨q10, h10, rfl, w10⟩ := DataW.trod_int Tryd.underlying3 f8
        simp at h0 h1 h2 h3 h4 h5 h6 h7 h8 h9 h10
        subst h0 h1 h2 h3 h4 h5 h6 h7 h8 h9 h10
        exact ⟨⟨q0, q1, q2, q3, q4, q5, q6, q7, q8, q9, q10⟩, rfl, bounds_i64 w0, bounds_i64 w1, bounds_i64 w2⟩

theorem recs_open {H : Type} {enc : TypeId × Value → H} {base fuel : Nat} {w : World} {v : Value} {x : DataW H × List MemPlace} (hs : ∃ a len cap, v = .slice a len cap) (hf : DataW.trod enc Tryd.prog w base (fun _ => true) true fuel 26 [v] = some x) :
    ∃ l : List Rec, RecsAt w v l ∧ NilOr v ∧ ∀ r ∈ l, RecI r := by
  obtain ⟨a1, len, cap, rfl⟩ := hs
  rcases open_slice Tryd.underlying26 hf with ⟨hcs, hx⟩ | ⟨a, len', cap', m, n, D, Pl, hcs, _, hl, hm, hmm, hx, hrow⟩
  · simp at hcs
    obtain ⟨rfl, rfl, rfl⟩ := hcs
    exact ⟨[], ⟨by simp, none, 0, rfl, fun h => absurd rfl h⟩, .inl rfl, fun r hr => by cases hr⟩
  · simp at hcs
    obtain ⟨rfl, rfl, rfl⟩ := hcs
    simp only [if_true] at hmm
    subst hmm
    unfold maxLen at hm
    have each : ∀ i, i < len → ∃ r : Rec, RecI r ∧ ∀ k, k < 11 → w.cell? (a.add (i * 11 + k)) = r.cells[k]? := by
      intro i hi
      obtain ⟨cs', h1, h2⟩ := hrow i (by omega)
      rw [cellsRec] at h1
      obtain ⟨_, hlen, hcell⟩ := World.cells?_some h1
      obtain ⟨r, rfl, hr⟩ := open_rec hlen h2
      refine ⟨r, hr, fun k hk => ?_⟩
      have := hcell k hk
      rw [add_add] at this
      exact this
    have : Inhabited Rec := ⟨rec0⟩
    obtain ⟨f, hfr⟩ := choose_lt each
    have hlen : ((List.range len).map f).length = len := by simp
    refine ⟨(List.range len).map f, ⟨by omega, some a, m, by rw [hlen], fun hne => ?_⟩, .inr ⟨a, _, _, rfl⟩, fun r hr => ?_⟩
    · have h0 : 0 < len := by
        refine Nat.pos_of_ne_zero fun e => hne ?_
        subst e; rfl
      obtain ⟨ab, ao, spot⟩ := a
      have hspot : spot = none := by
        have := (hfr 0 h0).2 0 (by omega)
        simpa [Addr.add] using World.cell?_spot this
      subst hspot
      refine ⟨ab, ao, rfl, fun i hi => ?_⟩
      rw [hlen] at hi
      have hq := (hfr i hi).2
      rw [show ((List.range len).map f).getD i rec0 = f i by simp [hi]]
      refine RecAt.of fun k hk => ?_
      have := hq k hk
      rw [Addr.add_lit] at this
      rw [Nat.add_assoc]
      exact this
    · obtain ⟨i, hi, rfl⟩ := List.mem_map.1 hr
      exact (hfr i (List.mem_range.1 hi)).1

set_option maxRecDepth 100000 in
theorem open_recs {H : Type} {enc : TypeId × Value → H} {b0 base : Nat} {w : World} {v : Value} {d : DataW H} {p : List MemPlace}
    (hv : Value.okWide Tryd.prog w .any b0 26 v) (h : DataW.Trod enc Tryd.prog w base (fun _ => true) true 26 v d p) :
    ∃ l : List Rec, RecsAt w v l ∧ NilOr v ∧ ∀ r ∈ l, RecI r := by
  obtain ⟨a1, len, cap, rfl⟩ := okWide_slice Tryd.underlying26 hv
  obtain ⟨fuel, hf⟩ := h
  exact recs_open ⟨a1, len, cap, rfl⟩ (by simpa [Value.cells] using hf)
end Go.Proofs.YtkimojconidhlaaDoor
