/- Digests and sources among the arguments; the tables of package digest. Slices of bytes, signatures, and pairs among the arguments. Encodings of items, transcripts, challenges: plain lists of bytes. No program in sight. Items in memory, and their encodings. Over any program. Package encode: valid items; numbers. -/
import Derived.Test.YtoaomjdpiealfaaGreatDoorMB5
import Derived.Test.YtoaomjdpiealfaaGreatDoorMB7
namespace Go.Proofs.YtoaomjdpiealfaaGreatDoor
open Go.ChangeShapes Go.WideShapes Go.ChangeAt Go.RowKit Go.Sp

theorem cellsHash : Tryz.prog.cellsOf 55 = 32 := by kernel_rfl

/-- The number in a cell. -/
def intC : Option Value → Int
  | some (.int _ n) => n
  | _ => 0

theorem hash_cells {H : Type} {enc : TypeId × Value → H} {base : Nat} {spare : Nat → Bool} {held : Bool} {w : World} {fuel : Nat} {cs : List Value} {x : DataW H × List MemPlace}
    (h : DataW.trod enc Tryz.prog w base spare held fuel 55 cs = some x) : ∃ root : Nat → Int, cs = (arrK .u8 root 32).toList ∧ Byt root := by
  obtain ⟨xs, m, rfl, hx, hl, hxl, hf⟩ := DataW.trod_array Tryz.underlying55 h
  have hl32 : cs.length = 32 := hl.trans cellsHash
  have hone : ∀ i, i < 32 → ∃ a, cs[i]? = some (.int .u8 a) ∧ 0 ≤ a ∧ a ≤ 255 := fun i hi => by
    have h1 := hf i hi
    rw [cellsU8, Nat.mul_one, List.drop_eq_getElem_cons (by omega), List.take_succ_cons, List.take_zero] at h1
    have hy : xs[i]? = some (xs[i]'(by omega)) := List.getElem?_eq_getElem (by omega)
    rw [hy] at h1
    obtain ⟨a, e0, _, wa⟩ := DataW.trod_int Tryz.underlying5 h1
    have e1 := (List.cons.inj e0).1
    rw [List.getElem?_eq_getElem (by omega), e1]
    have := bounds_u8 wa
    exact ⟨a, rfl, this.1, this.2⟩
  refine ⟨fun i => intC cs[i]?, ?_, fun i => ?_⟩
  · apply List.ext_getElem?
    intro i
    rw [show (arrK .u8 (fun i => intC cs[i]?) 32).toList[i]? = (arrK .u8 (fun i => intC cs[i]?) 32)[i]? from Array.getElem?_toList]
    by_cases hi : i < 32
    · obtain ⟨a, ha, _⟩ := hone i hi
      rw [arrK_get hi, ha]
      rfl
    · rw [List.getElem?_eq_none (by omega), Array.getElem?_eq_none (by rw [arrK_size]; omega)]
  · by_cases hi : i < 32
    · obtain ⟨a, ha, h0, h1⟩ := hone i hi
      show 0 ≤ intC cs[i]? ∧ intC cs[i]? ≤ 255
      rw [ha]
      exact ⟨h0, h1⟩
    · show 0 ≤ intC cs[i]? ∧ intC cs[i]? ≤ 255
      rw [List.getElem?_eq_none (by omega)]
      exact ⟨Int.le_refl _, by decide⟩

set_option maxRecDepth 100000 in
/-- A digest among the arguments. -/
theorem open_hash {H : Type} {enc : TypeId × Value → H} {r : Reach} {b0 base : Nat} {spare : Nat → Bool} {held : Bool} {w : World} {v : Value} {d : DataW H} {p : List MemPlace}
    (hv : Value.okWide Tryz.prog w r b0 55 v) (h : DataW.Trod enc Tryz.prog w base spare held 55 v d p) : ∃ root : Nat → Int, v = hashV root ∧ Byt root := by
  simp only [Value.okWide, Tryz.underlying55] at hv
  obtain ⟨cs, rfl, hsz, _⟩ := hv
  obtain ⟨fuel, hf⟩ := h
  obtain ⟨root, h1, h2⟩ := hash_cells hf
  refine ⟨root, ?_, h2⟩
  have h1 : cs.toList = (arrK .u8 root 32).toList := h1
  rw [Array.toList_inj.1 h1]
  rfl

set_option maxRecDepth 100000 in
/-- A source among the arguments. -/
theorem open_draw {H : Type} {enc : TypeId × Value → H} {r : Reach} {b0 base : Nat} {spare : Nat → Bool} {held : Bool} {w : World} {v : Value} {d : DataW H} {p : List MemPlace}
    (hv : Value.okWide Tryz.prog w r b0 105 v) (h : DataW.Trod enc Tryz.prog w base spare held 105 v d p) : ∃ (seed : Nat → Int) (c : Int), v = drw seed c ∧ Byt seed ∧ -9223372036854775808 ≤ c ∧ c ≤ 9223372036854775807 := by
  obtain ⟨cs, rfl, hsz⟩ := okWide_struct Tryz.underlying105 hv
  have hC : Tryz.prog.cellsOf 105 = 33 := by kernel_rfl
  rw [hC] at hsz
  obtain ⟨fuel, hf⟩ := h
  obtain ⟨xs, n, _, hx, _, hlen, hg⟩ := DataW.trod_struct Tryz.underlying105 hf
  match xs, hlen with
  | [y0, y1], _ =>
    have f0 := hg 0 _ rfl
    have f1 := hg 1 _ rfl
    simp [Value.cells, cellsInt, cellsHash] at f0 f1
    obtain ⟨root, h1, h2⟩ := hash_cells f0
    obtain ⟨a, e0, _, wa⟩ := DataW.trod_int Tryz.underlying3 f1
    have hb := bounds_i64 wa
    refine ⟨root, a, ?_, h2, hb.1, hb.2⟩
    have e2 : cs.toList = (drwA root a).toList := by
      rw [← List.take_append_drop 32 cs.toList]
      have e3 : cs.toList.drop 32 = [.int .i64 a] := by
        have hl : (cs.toList.drop 32).length = 1 := by simp [hsz]
        rw [← e0, List.take_of_length_le (by omega)]
      rw [e3, h1]
      simp [drwA]
    rw [Array.toList_inj.1 e2]
    rfl

theorem gStart : Tryz.prog.globalNamed "specie/digest.start" = some 1 := by kernel_rfl
theorem gStartType : (Tryz.prog.globals[1]?).map (·.type) = some 187 := by kernel_rfl
theorem gConst : Tryz.prog.globalNamed "specie/digest.constants" = some 3 := by kernel_rfl
theorem gConstType : (Tryz.prog.globals[3]?).map (·.type) = some 230 := by kernel_rfl
theorem cellsU32 : Tryz.prog.cellsOf 186 = 1 := by kernel_rfl
theorem cellsStart : Tryz.prog.cellsOf 187 = 8 := by kernel_rfl
theorem cellsConst : Tryz.prog.cellsOf 230 = 64 := by kernel_rfl

abbrev laidSha : List (String × DataW Unit) := [("specie/digest.constants", Rows.laid_specie_digest_constants), ("specie/digest.start", Rows.laid_specie_digest_start)]
abbrev laidFour : List (String × DataW Unit) := [("math/bits.deBruijn64tab", Rows.laid_math_bits_deBruijn64tab), ("specie/prime.bases", Rows.laid_specie_prime_bases), ("specie/digest.constants", Rows.laid_specie_digest_constants), ("specie/digest.start", Rows.laid_specie_digest_start)]

theorem tabS_of {W : World} (h0 : laidMet Tryz.prog laidSha W) : TabS W := by
  have t1 : Lib.TabIs Tryz.prog W "specie/digest.constants" .u32 shaK :=
    Lib.tabIs_of_head (rest := [("specie/digest.start", Rows.laid_specie_digest_start)]) gConst gConstType Tryz.underlying230 Tryz.underlying186 cellsU32 cellsConst h0
  have t2 : Lib.TabIs Tryz.prog W "specie/digest.start" .u32 ((List.range 8).map shaStart.get) :=
    Lib.tabIs_of_head (rest := []) gStart gStartType Tryz.underlying187 Tryz.underlying186 cellsU32 cellsStart (laid_tail h0)
  refine ⟨?_, fun i hi => ?_⟩
  · unfold Lib.TabIs World.var? at t2
    rw [gStart] at t2
    simp only [Option.bind_some] at t2
    split at t2
    · rename_i cs t fr hh
      simp only [Option.some.injEq] at t2
      exact ⟨t, fr, by rw [hh, t2]; rfl⟩
    · cases t2
  · have := t1.cell gConst i (by simpa [shaK] using hi)
    rw [this]

theorem tabS_of_sha {W : World} (h : laidMetH Tryz.prog laidSha W) : TabS W := tabS_of h
theorem tabS_of_four {W : World} (h : laidMetH Tryz.prog laidFour W) : TabS W := by
  have h0 : laidMet Tryz.prog laidFour W := h
  exact tabS_of (laid_tail (laid_tail h0))
theorem tab_of_four {W : World} (h : laidMetH Tryz.prog laidFour W) : Tab W := by
  have h0 : laidMet Tryz.prog laidFour W := h
  have t1 : Lib.TabIs Tryz.prog W "math/bits.deBruijn64tab" .u8 (Lib.deBruijn64tab.map fun n : Nat => (n : Int)) :=
    Lib.tabIs_of_head (rest := [("specie/prime.bases", Rows.laid_specie_prime_bases), ("specie/digest.constants", Rows.laid_specie_digest_constants), ("specie/digest.start", Rows.laid_specie_digest_start)]) gTab gTabType Tryz.underlying227 Tryz.underlying5 cellsU8 cellsTab h0
  have t2 : Lib.TabIs Tryz.prog W "specie/prime.bases" .u64 baseList :=
    Lib.tabIs_of_head (rest := laidSha) gBases gBasesType Tryz.underlying180 Tryz.underlying179 cellsU64 cellsBases (laid_tail h0)
  refine ⟨?_, fun i hi => ?_⟩
  · unfold Lib.TabIs World.var? at t2
    rw [gBases] at t2
    simp only [Option.bind_some] at t2
    split at t2
    · rename_i cs t fr hh
      simp only [Option.some.injEq] at t2
      exact ⟨t, fr, by rw [hh, t2]; rfl⟩
    · cases t2
  · have := t1.cell gTab i (by simpa [Lib.deBruijn64tab] using hi)
    rw [this]
    simp [List.getD_eq_getElem?_getD]
    cases h : Lib.deBruijn64tab[i]? <;> simp
end Go.Proofs.YtoaomjdpiealfaaGreatDoor
namespace Go.Proofs.YtoaomjdpiealfaaGreatDoor
open Go.ChangeShapes Go.WideShapes Go.ChangeAt Go.RowKit Go.Sp Go.Joins Go.Deep

theorem seq_of_zs {w : World} {a : Addr} {len cap : Nat} {zs : List Int} (hl : len ≤ cap) (hm : cap ≤ maxLen) (hz : zs.length = cap) (hcell : ∀ i, i < zs.length → w.cell? (a.add i) = some (.int .u8 (zs.getD i 0))) :
    SeqAt .u8 w (.slice (some a) len cap) (zs.take len) := by
  unfold maxLen at hm
  have hlen : (zs.take len).length = len := by simp; omega
  refine ⟨some a, cap, by rw [hlen], by omega, by omega, (fun h => by cases h), fun hne => ?_⟩
  have h0 : 0 < len := by
    refine Nat.pos_of_ne_zero fun e => hne ?_
    subst e; simp
  obtain ⟨ab, ao, spot⟩ := a
  have hspot : spot = none := by simpa [Addr.add] using World.cell?_spot (hcell 0 (by omega))
  subst hspot
  refine ⟨ab, ao, rfl, fun i hi => ?_⟩
  rw [hlen] at hi
  have := hcell i (by omega)
  rw [Addr.add_lit] at this
  rw [this]
  simp [hi]

set_option maxRecDepth 100000 in
/-- A slice of bytes among the arguments. -/
theorem open_bytes {H : Type} {enc : TypeId × Value → H} {b0 base : Nat} {w : World} {v : Value} {d : DataW H} {p : List MemPlace}
    (hv : Value.okWide Tryz.prog w .any b0 25 v) (h : DataW.Trod enc Tryz.prog w base (fun _ => true) true 25 v d p) :
    ∃ xs : List Int, SeqAt .u8 w v xs ∧ ∀ x ∈ xs, 0 ≤ x ∧ x ≤ 255 := by
  obtain ⟨a1, len, cap, rfl⟩ := okWide_slice Tryz.underlying25 hv
  obtain ⟨fuel, hf⟩ := h
  rcases open_ints Tryz.underlying25 Tryz.underlying5 cellsU8 hf with ⟨hcs, hx⟩ | ⟨a, len', cap', zs, hcs, _, hl, hm, hz, hx, hcell, hwz⟩
  · simp [Value.cells] at hcs
    obtain ⟨rfl, rfl, rfl⟩ := hcs
    exact ⟨[], seq_none, fun x hx => by cases hx⟩
  · simp [Value.cells] at hcs
    obtain ⟨rfl, rfl, rfl⟩ := hcs
    simp only [if_true] at hz
    exact ⟨zs.take len, seq_of_zs hl hm hz hcell, fun x hx => bounds_u8 (hwz x (List.mem_of_mem_take hx))⟩

set_option maxRecDepth 100000 in
/-- Two integers among the arguments. -/
theorem open_two {H : Type} {enc : TypeId × Value → H} {r : Reach} {b0 base : Nat} {spare : Nat → Bool} {held : Bool} {w : World} {v : Value} {d : DataW H} {p : List MemPlace}
    (hv : Value.okWide Tryz.prog w r b0 24 v) (h : DataW.Trod enc Tryz.prog w base spare held 24 v d p) : ∃ x y : Int, v = .agg #[.int .i64 x, .int .i64 y] ∧ (-9223372036854775808 ≤ x ∧ x ≤ 9223372036854775807) ∧ (-9223372036854775808 ≤ y ∧ y ≤ 9223372036854775807) := by
  simp only [Value.okWide, Tryz.underlying24] at hv
  obtain ⟨cs, rfl, hsz, _⟩ := hv
  obtain ⟨fuel, hf⟩ := h
  obtain ⟨xs, m, rfl, hx, hl, hxl, hg⟩ := DataW.trod_array Tryz.underlying24 hf
  have hC : Tryz.prog.cellsOf 24 = 2 := by kernel_rfl
  obtain ⟨l⟩ := cs
  match l, hl.trans hC with
  | [c0, c1], _ =>
    match xs, hxl with
    | [y0, y1], _ =>
      have f0 := hg 0 (by decide)
      have f1 := hg 1 (by decide)
      simp [Value.cells, cellsInt] at f0 f1
      obtain ⟨a0, e0, _, w0⟩ := DataW.trod_int Tryz.underlying3 f0
      obtain ⟨a1, e1, _, w1⟩ := DataW.trod_int Tryz.underlying3 f1
      simp at e0 e1
      subst e0 e1
      exact ⟨a0, a1, rfl, bounds_i64 w0, bounds_i64 w1⟩

set_option maxRecDepth 100000 in
theorem open_sig {H : Type} {enc : TypeId × Value → H} {r : Reach} {b0 base : Nat} {spare : Nat → Bool} {held : Bool} {w : World} {v : Value} {d : DataW H} {p : List MemPlace}
    (hv : Value.okWide Tryz.prog w r b0 36 v) (h : DataW.Trod enc Tryz.prog w base spare held 36 v d p) :
    ∃ x0 x1 : Int, v = .agg #[.int .i64 x0, .int .i64 x1] ∧ (-9223372036854775808 ≤ x0 ∧ x0 ≤ 9223372036854775807) ∧ (-9223372036854775808 ≤ x1 ∧ x1 ≤ 9223372036854775807) := by
  obtain ⟨cs, rfl, hsz⟩ := okWide_struct Tryz.underlying36 hv
  have hC : Tryz.prog.cellsOf 36 = 2 := by kernel_rfl
  obtain ⟨l⟩ := cs
  match l, hsz.trans hC with
  | [c0, c1], _ =>
    obtain ⟨fuel, hf⟩ := h
    obtain ⟨xs, n, _, hx, _, hlen, hg⟩ := DataW.trod_struct Tryz.underlying36 hf
    match xs, hlen with
    | [y0, y1], _ =>
      have f0 := hg 0 _ rfl
      have f1 := hg 1 _ rfl
      simp [Value.cells, cellsInt] at f0 f1
      obtain ⟨a0, e0, rfl, w0⟩ := DataW.trod_int Tryz.underlying3 f0
      obtain ⟨a1, e1, rfl, w1⟩ := DataW.trod_int Tryz.underlying3 f1
      simp at e0 e1
      subst e0 e1
      exact ⟨a0, a1, rfl, bounds_i64 w0, bounds_i64 w1⟩

set_option maxRecDepth 100000 in
theorem open_bview {H : Type} {enc : TypeId × Value → H} {r : Reach} {b0 base : Nat} {spare : Nat → Bool} {held : Bool} {w : World} {v : Value} {d : DataW H} {p : List MemPlace}
    (hv : Value.okWide Tryz.prog w r b0 33 v) (h : DataW.Trod enc Tryz.prog w base spare held 33 v d p) :
    ∃ x0 x1 x2 : Int, v = .agg #[.int .i64 x0, .int .i64 x1, .int .i64 x2] ∧ (-9223372036854775808 ≤ x0 ∧ x0 ≤ 9223372036854775807) ∧ (-9223372036854775808 ≤ x1 ∧ x1 ≤ 9223372036854775807) ∧ (-9223372036854775808 ≤ x2 ∧ x2 ≤ 9223372036854775807) := by
  obtain ⟨cs, rfl, hsz⟩ := okWide_struct Tryz.underlying33 hv
  have hC : Tryz.prog.cellsOf 33 = 3 := by kernel_rfl
  obtain ⟨l⟩ := cs
  match l, hsz.trans hC with
  | [c0, c1, c2], _ =>
    obtain ⟨fuel, hf⟩ := h
    obtain ⟨xs, n, _, hx, _, hlen, hg⟩ := DataW.trod_struct Tryz.underlying33 hf
    match xs, hlen with
    | [y0, y1, y2], _ =>
      have f0 := hg 0 _ rfl
      have f1 := hg 1 _ rfl
      have f2 := hg 2 _ rfl
      simp [Value.cells, cellsInt] at f0 f1 f2
      obtain ⟨a0, e0, rfl, w0⟩ := DataW.trod_int Tryz.underlying3 f0
      obtain ⟨a1, e1, rfl, w1⟩ := DataW.trod_int Tryz.underlying3 f1
      obtain ⟨a2, e2, rfl, w2⟩ := DataW.trod_int Tryz.underlying3 f2
      simp at e0 e1 e2
      subst e0 e1 e2
      exact ⟨a0, a1, a2, rfl, bounds_i64 w0, bounds_i64 w1, bounds_i64 w2⟩

set_option maxRecDepth 100000 in
theorem open_buser {H : Type} {enc : TypeId × Value → H} {r : Reach} {b0 base : Nat} {spare : Nat → Bool} {held : Bool} {w : World} {v : Value} {d : DataW H} {p : List MemPlace}
    (hv : Value.okWide Tryz.prog w r b0 40 v) (h : DataW.Trod enc Tryz.prog w base spare held 40 v d p) :
    ∃ x0 x1 x2 x3 : Int, v = .agg #[.int .i64 x0, .int .i64 x1, .int .i64 x2, .int .i64 x3] ∧ (-9223372036854775808 ≤ x0 ∧ x0 ≤ 9223372036854775807) ∧ (-9223372036854775808 ≤ x1 ∧ x1 ≤ 9223372036854775807) ∧ (-9223372036854775808 ≤ x2 ∧ x2 ≤ 9223372036854775807) ∧ (-9223372036854775808 ≤ x3 ∧ x3 ≤ 9223372036854775807) := by
  obtain ⟨cs, rfl, hsz⟩ := okWide_struct Tryz.underlying40 hv
  have hC : Tryz.prog.cellsOf 40 = 4 := by kernel_rfl
  obtain ⟨l⟩ := cs
  match l, hsz.trans hC with
  | [c0, c1, c2, c3], _ =>
    obtain ⟨fuel, hf⟩ := h
    obtain ⟨xs, n, _, hx, _, hlen, hg⟩ := DataW.trod_struct Tryz.underlying40 hf
    match xs, hlen with
    | [y0, y1, y2, y3], _ =>
      have f0 := hg 0 _ rfl
      have f1 := hg 1 _ rfl
      have f2 := hg 2 _ rfl
      have f3 := hg 3 _ rfl
      simp [Value.cells, cellsInt] at f0 f1 f2 f3
      obtain ⟨a0, e0, rfl, w0⟩ := DataW.trod_int Tryz.underlying3 f0
      obtain ⟨a1, e1, rfl, w1⟩ := DataW.trod_int Tryz.underlying3 f1
      obtain ⟨a2, e2, rfl, w2⟩ := DataW.trod_int Tryz.underlying3 f2
      obtain ⟨a3, e3, rfl, w3⟩ := DataW.trod_int Tryz.underlying3 f3
      simp at e0 e1 e2 e3
      subst e0 e1 e2 e3
      exact ⟨a0, a1, a2, a3, rfl, bounds_i64 w0, bounds_i64 w1, bounds_i64 w2, bounds_i64 w3⟩
end Go.Proofs.YtoaomjdpiealfaaGreatDoor
namespace Go.Sp

def encInt (n : Int) : List Int := 1 :: beL 8 (IntKind.u64.wrap n)
def encBytes (xs : List Int) : List Int := 2 :: (beL 4 xs.length ++ xs)
def encList (es : List (List Int)) : List Int := 3 :: (beL 4 es.length ++ es.flatten)

theorem encInt_length (n : Int) : (encInt n).length = 9 := by rw [encInt, List.length_cons, beL_length]
theorem encBytes_length (xs : List Int) : (encBytes xs).length = xs.length + 5 := by rw [encBytes, List.length_cons, List.length_append, beL_length]; omega
theorem encList_length (es : List (List Int)) : (encList es).length = es.flatten.length + 5 := by rw [encList, List.length_cons, List.length_append, beL_length]; omega

/-- The frame that a transcript hashes. -/
def frameE (h : Nat → Int) (label : List Int) (more : List (List Int)) : List Int := encList (encBytes (hList h) :: encBytes label :: more)

theorem frameE_length (h : Nat → Int) (label : List Int) (more : List (List Int)) : (frameE h label more).length = 47 + label.length + more.flatten.length := by
  rw [frameE, encList_length, List.flatten_cons, List.flatten_cons, List.length_append, List.length_append, encBytes_length, encBytes_length, hList_length]; omega

def tagTr : List Int := [115, 112, 101, 99, 105, 101, 47, 116, 114, 97, 110, 115, 99, 114, 105, 112, 116]
def tagAbsorb : List Int := [115, 112, 101, 99, 105, 101, 47, 97, 98, 115, 111, 114, 98]
def tagChal : List Int := [115, 112, 101, 99, 105, 101, 47, 99, 104, 97, 108, 108, 101, 110, 103, 101]
def tagCoin : List Int := [115, 112, 101, 99, 105, 101, 47, 99, 111, 105, 110]

def trNew (label : List Int) : Nat → Int := tagB tagTr label
def absB (h : Nat → Int) (label item : List Int) : Nat → Int := tagB tagAbsorb (frameE h label [item])
def chalN (h : Nat → Int) (label : List Int) (q : Int) : Int := numH (tagB tagChal (frameE h label [])) q

def lbSig : List Int := [115, 105, 103, 110, 97, 116, 117, 114, 101]
def lbGroup : List Int := [103, 114, 111, 117, 112]
def lbKey : List Int := [107, 101, 121]
def lbComm : List Int := [99, 111, 109, 109, 105, 116, 109, 101, 110, 116]
def lbMsg : List Int := [109, 101, 115, 115, 97, 103, 101]
def lbChal : List Int := [99, 104, 97, 108, 108, 101, 110, 103, 101]

def encInts (l : List Int) : List Int := encList (l.map encInt)

/-- The challenge of a signature. -/
def sigC (P Q G r y : Int) (m : List Int) : Int :=
  chalN (absB (absB (absB (absB (trNew lbSig) lbGroup (encInts [P, Q, G])) lbKey (encInts [y])) lbComm (encInts [r])) lbMsg (encBytes (hList (shaB m)))) lbChal Q

/-- The challenge of a coin. -/
def coinC (P Q G A B C p : Int) (root : Nat → Int) (z a b : Int) : Int :=
  numH (tagB tagCoin (encList ([P, Q, G, A, B, C, p].map encInt ++ encBytes (hList root) :: [z, a, b].map encInt))) Q

theorem numH_range (h : Nat → Int) {m : Int} (hm : 0 < m) : 0 ≤ numH h m ∧ numH h m < m := numB_range hm 16
theorem sigC_range (P G r y : Int) (m : List Int) {Q : Int} (hQ : 0 < Q) : 0 ≤ sigC P Q G r y m ∧ sigC P Q G r y m < Q := numH_range _ hQ
theorem coinC_range (P G A B C p : Int) (root : Nat → Int) (z a b : Int) {Q : Int} (hQ : 0 < Q) : 0 ≤ coinC P Q G A B C p root z a b ∧ coinC P Q G A B C p root z a b < Q := numH_range _ hQ

theorem beL_bytes (n : Nat) (x : Int) : ∀ y ∈ beL n x, 0 ≤ y ∧ y ≤ 255 := by
  intro y hy
  simp only [beL, List.mem_map] at hy
  obtain ⟨i, _, rfl⟩ := hy
  have := Int.emod_lt_of_pos (x / 2 ^ (8 * (n - 1 - i))) (show (0 : Int) < 256 by decide)
  exact ⟨Int.emod_nonneg _ (by decide), by omega⟩
theorem encInt_byt (n : Int) : ∀ y ∈ encInt n, 0 ≤ y ∧ y ≤ 255 := by
  intro y hy
  simp only [encInt, List.mem_cons] at hy
  rcases hy with rfl | hy
  · omega
  · exact beL_bytes _ _ y hy
theorem encBytes_byt {xs : List Int} (h : ∀ y ∈ xs, 0 ≤ y ∧ y ≤ 255) : ∀ y ∈ encBytes xs, 0 ≤ y ∧ y ≤ 255 := by
  intro y hy
  simp only [encBytes, List.mem_cons, List.mem_append] at hy
  rcases hy with rfl | hy | hy
  · omega
  · exact beL_bytes _ _ y hy
  · exact h y hy
theorem encList_byt {es : List (List Int)} (h : ∀ e ∈ es, ∀ y ∈ e, 0 ≤ y ∧ y ≤ 255) : ∀ y ∈ encList es, 0 ≤ y ∧ y ≤ 255 := by
  intro y hy
  simp only [encList, List.mem_cons, List.mem_append, List.mem_flatten] at hy
  rcases hy with rfl | hy | ⟨e, he, hy⟩
  · omega
  · exact beL_bytes _ _ y hy
  · exact h e he y hy
theorem hList_bytes {h : Nat → Int} (hB : Byt h) : ∀ y ∈ hList h, 0 ≤ y ∧ y ≤ 255 := by
  intro y hy
  simp only [hList, List.mem_map] at hy
  obtain ⟨i, _, rfl⟩ := hy
  exact hB i

/-- The items of a coin's challenge. -/
def coinL (P Q G A B C p : Int) (root : Nat → Int) (z a b : Int) : List (List Int) := [P, Q, G, A, B, C, p].map encInt ++ encBytes (hList root) :: [z, a, b].map encInt
theorem coinL_flat (P Q G A B C p : Int) (root : Nat → Int) (z a b : Int) : (coinL P Q G A B C p root z a b).flatten.length = 127 := by
  simp [coinL, encInt_length, encBytes_length, hList_length]
theorem coinL_byt {P Q G A B C p : Int} {root : Nat → Int} {z a b : Int} (hB : Byt root) : ∀ y ∈ encList (coinL P Q G A B C p root z a b), 0 ≤ y ∧ y ≤ 255 := by
  refine encList_byt fun e he => ?_
  simp only [coinL, List.map_cons, List.map_nil, List.mem_append, List.mem_cons, List.not_mem_nil, or_false] at he
  rcases he with (rfl | rfl | rfl | rfl | rfl | rfl | rfl) | rfl | rfl | rfl | rfl
  all_goals first | exact encInt_byt _ | exact encBytes_byt (hList_bytes hB)

end Go.Sp
namespace Go.Sp
open Go.RowKit

/-- An item as a value. -/
abbrev nilS : Value := .slice none 0 0
abbrev itm (k n : Int) (b l : Value) : Value := .agg #[.int .i64 k, .int .i64 n, b, l]

/-- The cells of an item at an offset of a block. -/
def ItmCells (w : World) (b o : Nat) (k n : Int) (vb vl : Value) : Prop :=
  w.cell? ⟨b, o, none⟩ = some (.int .i64 k) ∧ w.cell? ⟨b, o + 1, none⟩ = some (.int .i64 n) ∧ w.cell? ⟨b, o + 2, none⟩ = some vb ∧ w.cell? ⟨b, o + 3, none⟩ = some vl

/-- A slice of items, of which each has a property and an encoding. -/
def ItmRow (R : Int → Int → Value → Value → List Int → Prop) (w : World) (v : Value) (ess : List (List Int)) : Prop :=
  ∃ a cap, v = .slice a ess.length cap ∧ ess.length ≤ cap ∧ cap ≤ 9223372036854775807 ∧ (a = none → cap = 0) ∧
    ∀ i, i < ess.length → ∃ b off k n vb vl, a = some ⟨b, off, none⟩ ∧ ItmCells w b (off + i * 4) k n vb vl ∧ R k n vb vl (ess.getD i [])

/-- An integer, or bytes. -/
def Leaf (w : World) (k n : Int) (b l : Value) (es : List Int) : Prop :=
  (k = 1 ∧ b = nilS ∧ l = nilS ∧ es = encInt n) ∨ (k = 2 ∧ n = 0 ∧ l = nilS ∧ ∃ xs, SeqAt .u8 w b xs ∧ xs.length ≤ 1000000 ∧ (∀ x ∈ xs, 0 ≤ x ∧ x ≤ 255) ∧ es = encBytes xs)

/-- An item with so many lists about its leaves at most, and its encoding. -/
def ItmAt (w : World) : Nat → Int → Int → Value → Value → List Int → Prop
  | 0, k, n, b, l, es => Leaf w k n b l es
  | d + 1, k, n, b, l, es => Leaf w k n b l es ∨ (k = 3 ∧ n = 0 ∧ b = nilS ∧ ∃ ess, ess.length ≤ 1000 ∧ ItmRow (ItmAt w d) w l ess ∧ es = encList ess)

theorem ItmCells.up {w w' : World} {b o : Nat} {k n : Int} {vb vl : Value} (h : ItmCells w b o k n vb vl) (hU : Up w w') : ItmCells w' b o k n vb vl := by
  obtain ⟨h1, h2, h3, h4⟩ := h
  exact ⟨by rw [hU.cell (cell_in h1)]; exact h1, by rw [hU.cell (cell_in h1)]; exact h2, by rw [hU.cell (cell_in h1)]; exact h3, by rw [hU.cell (cell_in h1)]; exact h4⟩

theorem ItmRow.up {R R' : Int → Int → Value → Value → List Int → Prop} {w w' : World} {v : Value} {ess : List (List Int)} (h : ItmRow R w v ess) (hU : Up w w') (hR : ∀ k n b l es, R k n b l es → R' k n b l es) : ItmRow R' w' v ess := by
  obtain ⟨a, cap, h1, h2, h3, h4, h5⟩ := h
  refine ⟨a, cap, h1, h2, h3, h4, fun i hi => ?_⟩
  obtain ⟨b, off, k, n, vb, vl, ha, hc, hr⟩ := h5 i hi
  exact ⟨b, off, k, n, vb, vl, ha, hc.up hU, hR _ _ _ _ _ hr⟩

theorem Leaf.up {w w' : World} {k n : Int} {b l : Value} {es : List Int} (h : Leaf w k n b l es) (hU : Up w w') : Leaf w' k n b l es := by
  rcases h with h | ⟨h1, h2, h3, xs, h4, h5⟩
  · exact .inl h
  · exact .inr ⟨h1, h2, h3, xs, h4.up hU, h5⟩

theorem ItmAt.up {w w' : World} (hU : Up w w') : ∀ {d : Nat} {k n : Int} {b l : Value} {es : List Int}, ItmAt w d k n b l es → ItmAt w' d k n b l es
  | 0, _, _, _, _, _, h => Leaf.up h hU
  | _ + 1, _, _, _, _, _, .inl h => .inl (h.up hU)
  | _ + 1, _, _, _, _, _, .inr ⟨h1, h2, h3, ess, h4, h5, h6⟩ => .inr ⟨h1, h2, h3, ess, h4, h5.up hU fun _ _ _ _ _ => ItmAt.up hU, h6⟩

theorem ItmAt.leaf {w : World} {k n : Int} {b l : Value} {es : List Int} (h : Leaf w k n b l es) : ∀ d, ItmAt w d k n b l es
  | 0 => h
  | _ + 1 => .inl h

theorem ItmAt.more {w : World} : ∀ {d : Nat} {k n : Int} {b l : Value} {es : List Int}, ItmAt w d k n b l es → ItmAt w (d + 1) k n b l es
  | 0, _, _, _, _, _, h => .inl h
  | _ + 1, _, _, _, _, _, .inl h => .inl h
  | _ + 1, _, _, _, _, _, .inr ⟨h1, h2, h3, ess, h4, h5, h6⟩ => .inr ⟨h1, h2, h3, ess, h4, h5.up (Up.refl _) fun _ _ _ _ _ => ItmAt.more, h6⟩

theorem itm_int (w : World) (n : Int) (d : Nat) : ItmAt w d 1 n nilS nilS (encInt n) := ItmAt.leaf (.inl ⟨rfl, rfl, rfl, rfl⟩) d
theorem itm_bytes {w : World} {v : Value} {xs : List Int} (h : SeqAt .u8 w v xs) (hl : xs.length ≤ 1000000) (hB : ∀ x ∈ xs, 0 ≤ x ∧ x ≤ 255) (d : Nat) : ItmAt w d 2 0 v nilS (encBytes xs) :=
  ItmAt.leaf (.inr ⟨rfl, rfl, rfl, xs, h, hl, hB, rfl⟩) d
theorem itm_list {w : World} {v : Value} {ess : List (List Int)} {d : Nat} (h : ItmRow (ItmAt w d) w v ess) (hl : ess.length ≤ 1000) : ItmAt w (d + 1) 3 0 nilS v (encList ess) := .inr ⟨rfl, rfl, rfl, ess, hl, h, rfl⟩

/-- What writes as far as 16384 bytes. -/
def Wrote (xs es ys : List Int) : Prop := (xs.length + es.length ≤ 16384 → ys = xs ++ es) ∧ (16384 < xs.length + es.length → 16384 < ys.length) ∧ ys.length ≤ xs.length + es.length

theorem Wrote.full {xs : List Int} (es : List Int) (h : 16384 < xs.length) : Wrote xs es xs := ⟨fun h' => by omega, fun _ => h, by omega⟩
theorem Wrote.all (xs es : List Int) : Wrote xs es (xs ++ es) := ⟨fun _ => rfl, fun h => by rw [List.length_append]; exact h, by rw [List.length_append]; omega⟩
theorem Wrote.next {xs a ys b zs : List Int} (h : Wrote xs a ys) (k : Wrote ys b zs) : Wrote xs (a ++ b) zs := by
  obtain ⟨h1, h2, h3⟩ := h
  obtain ⟨k1, k2, k3⟩ := k
  rw [Wrote, List.length_append]
  refine ⟨fun hl => ?_, fun hl => ?_, by omega⟩
  · have e1 := h1 (by omega)
    rw [k1 (by rw [e1, List.length_append]; omega), e1, List.append_assoc]
  · by_cases hx : xs.length + a.length ≤ 16384
    · have e1 := h1 hx
      exact k2 (by rw [e1, List.length_append]; omega)
    · have := h2 (by omega)
      exact k2 (by omega)

theorem flatten_take {ess : List (List Int)} {i : Nat} (hi : i < ess.length) : (ess.take (i + 1)).flatten = (ess.take i).flatten ++ ess.getD i [] := by
  rw [List.take_succ_eq_append_getElem hi, List.flatten_append]
  simp [hi]
theorem flatten_take_le (ess : List (List Int)) (i : Nat) : (ess.take i).flatten.length ≤ ess.flatten.length := by
  have : ess.flatten = (ess.take i).flatten ++ (ess.drop i).flatten := by rw [← List.flatten_append, List.take_append_drop]
  rw [this, List.length_append]
  omega
theorem flatten_at_le {ess : List (List Int)} {i : Nat} (hi : i < ess.length) : (ess.take i).flatten.length + (ess.getD i []).length ≤ ess.flatten.length := by
  have h := flatten_take_le ess (i + 1)
  rw [flatten_take hi, List.length_append] at h
  exact h

/-- The four cells of an item. -/
structure Quad where
  (k n : Int)
  (b l : Value)
def Quad.cells (q : Quad) : List Value := [.int .i64 q.k, .int .i64 q.n, q.b, q.l]
/-- The items are the call's own. -/
def OwnQ (e : TypeId) (w : World) (base : Nat) (v : Value) (qs : List Quad) : Prop := w.ownsRow base e 4 v qs.length (qs.flatMap Quad.cells)
/-- Each of the items has its encoding. -/
def QuadAt (w : World) (d : Nat) (qs : List Quad) (ess : List (List Int)) : Prop := qs.length = ess.length ∧ ∀ i (h : i < qs.length), ItmAt w d qs[i].k qs[i].n qs[i].b qs[i].l (ess.getD i [])

theorem quads_at (qs : List Quad) (i j : Nat) (h : i < qs.length) (hj : j < 4) : (qs.flatMap Quad.cells)[i * 4 + j]? = (qs[i].cells)[j]? := by
  induction qs generalizing i with
  | nil => simp at h
  | cons q qs ih =>
    rw [List.flatMap_cons]
    have hl : q.cells.length = 4 := rfl
    cases i with
    | zero =>
      rw [List.getElem?_append_left (by omega)]
      simp
    | succ i =>
      rw [List.getElem?_append_right (by omega), hl, show (i + 1) * 4 + j - 4 = i * 4 + j by omega, ih i (by simpa using h)]
      simp
theorem quads_length (qs : List Quad) : (qs.flatMap Quad.cells).length = qs.length * 4 := by
  induction qs with
  | nil => rfl
  | cons q qs ih =>
    rw [List.flatMap_cons, List.length_append, ih, List.length_cons]
    have hl : q.cells.length = 4 := rfl
    omega

theorem ownQ_none {e : TypeId} {w : World} {base : Nat} : OwnQ e w base nilS [] := ⟨by simp, .inl ⟨rfl, rfl⟩⟩

theorem OwnQ.row {e : TypeId} {w : World} {base : Nat} {v : Value} {qs : List Quad} {d : Nat} {ess : List (List Int)} (h : OwnQ e w base v qs) (hq : QuadAt w d qs ess) : ItmRow (ItmAt w d) w v ess := by
  obtain ⟨hlen, hq⟩ := hq
  have hh := h
  rcases h.2 with ⟨hv, hn⟩ | ⟨g, cap, cur, rfl, hb, hg, hn, hm, hs, ht⟩
  · exact ⟨none, 0, by rw [hv, ← hlen, hn], by omega, by omega, fun _ => rfl, fun i hi => by omega⟩
  · refine ⟨_, cap, by rw [hlen], by omega, by unfold maxLen at hm; omega, (fun h => by cases h), fun i hi => ?_⟩
    have hi' : i < qs.length := by omega
    have hc : ∀ j, j < 4 → w.cell? ⟨g, 0 + i * 4 + j, none⟩ = qs[i].cells[j]? := fun j hj => by
      rw [← quads_at qs i j hi' hj, Nat.zero_add]
      exact World.ownsRow.cellAt hh (i * 4 + j) (by omega)
    refine ⟨g, 0, qs[i].k, qs[i].n, qs[i].b, qs[i].l, rfl, ⟨by rw [show 0 + i * 4 = 0 + i * 4 + 0 from rfl, hc 0 (by omega)]; rfl, by rw [hc 1 (by omega)]; rfl, by rw [hc 2 (by omega)]; rfl, by rw [hc 3 (by omega)]; rfl⟩, hq i hi'⟩

theorem Leaf.one {w : World} {k n : Int} {b l : Value} {es : List Int} (h : Leaf w k n b l es) : b.oneCell' = true ∧ l.oneCell' = true := by
  rcases h with ⟨_, rfl, rfl, _⟩ | ⟨_, _, rfl, xs, h, _⟩
  · exact ⟨rfl, rfl⟩
  · obtain ⟨a, cap, rfl, _⟩ := h
    exact ⟨rfl, rfl⟩
theorem ItmAt.one {w : World} : ∀ {d : Nat} {k n : Int} {b l : Value} {es : List Int}, ItmAt w d k n b l es → b.oneCell' = true ∧ l.oneCell' = true
  | 0, _, _, _, _, _, h => Leaf.one h
  | _ + 1, _, _, _, _, _, .inl h => h.one
  | _ + 1, _, _, _, _, _, .inr ⟨_, _, h, ess, _, h5, _⟩ => by
    obtain ⟨a, cap, rfl, _⟩ := h5
    subst h
    exact ⟨rfl, rfl⟩

/-- append(l, more...) onto the call's own items: at the operation of a walk. -/
theorem wp_appQ {P : Program} {e t : TypeId} {z : Value} {bytes : Nat} (hI : (P.info? e).map (fun i => (i.zero, i.size, i.bytes)) = some (some z, 4, bytes)) (hz : z.cells.size = 4) (ht : P.underlying t = some (.slice e)) (hby : bytes ≤ 64)
    {ops : Array Oper} {rest : List Oper} {o : Oper} {a : Act} {w : World} {Q : Exit → Act → World → Prop} (hgd : o.guard = none) (s x : Operand)
    (ho : o.op = .call { callee := .builtin .append, args := #[s, x], argTypes := #[t, t] })
    (base : Nat) {v : Value} {qs news : List Quad} (hs : a.eval s = v) (hown : OwnQ e w base v qs) (g c : Nat) (hx : a.eval x = .slice (some ⟨g, 0, none⟩) news.length c)
    (hblk : ∀ i (h : i < news.length), ItmCells w g (i * 4) news[i].k news[i].n news[i].b news[i].l) (hone : ∀ i (h : i < news.length), news[i].b.oneCell' = true ∧ news[i].l.oneCell' = true)
    (hroom : qs.length + news.length ≤ 1000000) (hbase : base ≤ w.heap.size)
    (h : ∀ v' w', OwnQ e w' base v' (qs ++ news) → w.grownBy w' v.ownBlock → wpList P ops Q rest (a.put o.dst v') w') : wpList P ops Q (o :: rest) a w := by
  obtain ⟨i0, hi, hz0, hz1, hz2⟩ := info_parts hI
  refine wpList_append_own w hgd s x t ho base e i0 z 4 bytes ht hi hz0 hz1 hz2 hz (by decide) v qs.length _ hs hown ⟨g, 0, none⟩ news.length c (news.flatMap Quad.cells) hx (quads_length _) (fun j u hj => ?_) (fun u hu => ?_) (by unfold maxLen; omega) (by
      have := Nat.mul_le_mul hroom hby
      omega) hbase fun v' w' h1 h2 _ => h v' w' (by
        unfold OwnQ
        rw [List.length_append, List.flatMap_append]
        exact h1) h2
  · have hj2 : j < news.length * 4 := by
      have := (List.getElem?_eq_some_iff.1 hj).1
      rw [quads_length] at this
      exact this
    rw [Addr.add_lit, Nat.zero_add]
    obtain ⟨c0, c1, c2, c3⟩ := hblk (j / 4) (by omega)
    have hq := quads_at news (j / 4) (j % 4) (by omega) (by omega)
    rw [show j / 4 * 4 + j % 4 = j by omega, hj] at hq
    have hr : j % 4 = 0 ∨ j % 4 = 1 ∨ j % 4 = 2 ∨ j % 4 = 3 := by omega
    rw [show j = j / 4 * 4 + j % 4 by omega]
    rcases hr with hr | hr | hr | hr <;> rw [hr] at hq ⊢ <;> simp only [Quad.cells, List.getElem?_cons_zero, List.getElem?_cons_succ] at hq
    · rw [hq]; exact c0
    · rw [hq]; exact c1
    · rw [hq]; exact c2
    · rw [hq]; exact c3
  · obtain ⟨q, hq, hu⟩ := List.mem_flatMap.1 hu
    obtain ⟨i, hi, rfl⟩ := List.getElem_of_mem hq
    obtain ⟨o1, o2⟩ := hone i hi
    simp only [Quad.cells, List.mem_cons, List.not_mem_nil, or_false] at hu
    rcases hu with rfl | rfl | rfl | rfl
    · rfl
    · rfl
    · exact o1
    · exact o2

theorem QuadAt.nil (w : World) (d : Nat) : QuadAt w d [] [] := ⟨rfl, fun i h => by simp at h⟩
theorem QuadAt.app {w : World} {d : Nat} {qs rs : List Quad} {es fs : List (List Int)} (h : QuadAt w d qs es) (k : QuadAt w d rs fs) : QuadAt w d (qs ++ rs) (es ++ fs) := by
  refine ⟨by rw [List.length_append, List.length_append, h.1, k.1], fun i hi => ?_⟩
  rw [List.length_append] at hi
  by_cases h1 : i < qs.length
  · rw [List.getElem_append_left h1, List.getD_eq_getElem?_getD, List.getElem?_append_left (by have := h.1; omega), ← List.getD_eq_getElem?_getD]
    exact h.2 i h1
  · rw [List.getElem_append_right (by omega), List.getD_eq_getElem?_getD, List.getElem?_append_right (by have := h.1; omega), ← List.getD_eq_getElem?_getD, ← h.1]
    exact k.2 (i - qs.length) (by omega)
theorem QuadAt.one {w : World} {d : Nat} {q : Quad} {es : List Int} (h : ItmAt w d q.k q.n q.b q.l es) : QuadAt w d [q] [es] :=
  ⟨rfl, fun i hi => by
    obtain rfl : i = 0 := by simp at hi; omega
    exact h⟩

theorem OwnQ.up {e : TypeId} {w w' : World} {base : Nat} {v : Value} {qs : List Quad} (h : OwnQ e w base v qs) (hU : Up w w') : OwnQ e w' base v qs := ownsRow_later h hU
theorem QuadAt.up {w w' : World} {d : Nat} {qs : List Quad} {ess : List (List Int)} (h : QuadAt w d qs ess) (hU : Up w w') : QuadAt w' d qs ess := ⟨h.1, fun i hi => (h.2 i hi).up hU⟩
theorem OwnQ.block {e : TypeId} {w : World} {base : Nat} {v : Value} {qs : List Quad} (h : OwnQ e w base v qs) (j : Nat) (hj : v.ownBlock = some j) : base ≤ j := by
  rcases h.2 with ⟨hv, _⟩ | ⟨g, cap, cur, rfl, hb, _⟩
  · rw [hv] at hj; cases hj
  · simp [Value.ownBlock] at hj; omega
theorem OwnQ.shape {e : TypeId} {w : World} {base : Nat} {v : Value} {qs : List Quad} (h : OwnQ e w base v qs) : ∃ a c, v = .slice a qs.length c := by
  rcases h.2 with ⟨hv, hn⟩ | ⟨g, cap, cur, rfl, _⟩
  · exact ⟨none, 0, by rw [hv, hn]⟩
  · exact ⟨_, _, rfl⟩
theorem OwnQ.below {e : TypeId} {w w' : World} {base : Nat} {v : Value} {qs : List Quad} (h : OwnQ e w base v qs) (hg : w.grownBy w' v.ownBlock) (hb : base ≤ w.heap.size) : Below base w w' := Below.grown (Below.refl base w) hg hb fun j hj => h.block j hj

/-- append(l, more...) onto the call's own items: at the operation. -/
theorem op_appQ {P : Program} {e t : TypeId} {z : Value} {bytes : Nat} (hI : (P.info? e).map (fun i => (i.zero, i.size, i.bytes)) = some (some z, 4, bytes)) (hz : z.cells.size = 4) (ht : P.underlying t = some (.slice e)) (hby : bytes ≤ 64)
    {o : Oper} {a : Act} {w : World} {K : Act → World → Prop} {Q : Exit → Act → World → Prop} (s x : Operand)
    (ho : o.op = .call { callee := .builtin .append, args := #[s, x], argTypes := #[t, t] })
    (base : Nat) {v : Value} {qs news : List Quad} (hs : a.eval s = v) (hown : OwnQ e w base v qs) (g c : Nat) (hx : a.eval x = .slice (some ⟨g, 0, none⟩) news.length c)
    (hblk : ∀ i (h : i < news.length), ItmCells w g (i * 4) news[i].k news[i].n news[i].b news[i].l) (hone : ∀ i (h : i < news.length), news[i].b.oneCell' = true ∧ news[i].l.oneCell' = true)
    (hroom : qs.length + news.length ≤ 1000000) (hbase : base ≤ w.heap.size)
    (h : ∀ v' w', OwnQ e w' base v' (qs ++ news) → w.grownBy w' v.ownBlock → K (a.put o.dst v') w') : o.wp P a w K Q := by
  obtain ⟨i0, hi, hz0, hz1, hz2⟩ := info_parts hI
  refine wp_append_own w s x t ho base e i0 z 4 bytes ht hi hz0 hz1 hz2 hz (by decide) v qs.length _ hs hown ⟨g, 0, none⟩ news.length c (news.flatMap Quad.cells) hx (quads_length _) (fun j u hj => ?_) (fun u hu => ?_) (by unfold maxLen; omega) (by
      have := Nat.mul_le_mul hroom hby
      omega) hbase fun v' w' h1 h2 _ => h v' w' (by
        unfold OwnQ
        rw [List.length_append, List.flatMap_append]
        exact h1) h2
  · have hj2 : j < news.length * 4 := by
      have := (List.getElem?_eq_some_iff.1 hj).1
      rw [quads_length] at this
      exact this
    rw [Addr.add_lit, Nat.zero_add]
    obtain ⟨c0, c1, c2, c3⟩ := hblk (j / 4) (by omega)
    have hq := quads_at news (j / 4) (j % 4) (by omega) (by omega)
    rw [show j / 4 * 4 + j % 4 = j by omega, hj] at hq
    have hr : j % 4 = 0 ∨ j % 4 = 1 ∨ j % 4 = 2 ∨ j % 4 = 3 := by omega
    rw [show j = j / 4 * 4 + j % 4 by omega]
    rcases hr with hr | hr | hr | hr <;> rw [hr] at hq ⊢ <;> simp only [Quad.cells, List.getElem?_cons_zero, List.getElem?_cons_succ] at hq
    · rw [hq]; exact c0
    · rw [hq]; exact c1
    · rw [hq]; exact c2
    · rw [hq]; exact c3
  · obtain ⟨q, hq, hu⟩ := List.mem_flatMap.1 hu
    obtain ⟨i, hi, rfl⟩ := List.getElem_of_mem hq
    obtain ⟨o1, o2⟩ := hone i hi
    simp only [Quad.cells, List.mem_cons, List.not_mem_nil, or_false] at hu
    rcases hu with rfl | rfl | rfl | rfl
    · rfl
    · rfl
    · exact o1
    · exact o2

/-- The same at a step of a region that draws its order. -/
theorem step_appQ {P : Program} {e t : TypeId} {z : Value} {bytes : Nat} (hI : (P.info? e).map (fun i => (i.zero, i.size, i.bytes)) = some (some z, 4, bytes)) (hz : z.cells.size = 4) (ht : P.underlying t = some (.slice e)) (hby : bytes ≤ 64)
    {ops : Array Oper} {o : Oper} {a : Act} {w : World} {K : Act → World → Prop} {Q : Exit → Act → World → Prop} {E : Prop} (hgd : o.guard = none) (s x : Operand)
    (ho : o.op = .call { callee := .builtin .append, args := #[s, x], argTypes := #[t, t] })
    (base : Nat) {v : Value} {qs news : List Quad} (hs : a.eval s = v) (hown : OwnQ e w base v qs) (g c : Nat) (hx : a.eval x = .slice (some ⟨g, 0, none⟩) news.length c)
    (hblk : ∀ i (h : i < news.length), ItmCells w g (i * 4) news[i].k news[i].n news[i].b news[i].l) (hone : ∀ i (h : i < news.length), news[i].b.oneCell' = true ∧ news[i].l.oneCell' = true)
    (hroom : qs.length + news.length ≤ 1000000) (hbase : base ≤ w.heap.size)
    (h : ∀ v' w', OwnQ e w' base v' (qs ++ news) → w.grownBy w' v.ownBlock → K (a.put o.dst v') w') : if Region.wanted o (yielded ops a.tmps) = true then Oper.wp P o a w K Q else E := by
  have hw : Region.wanted o (yielded ops a.tmps) = true := by simp [Region.wanted, hgd]
  rw [if_pos hw]
  exact op_appQ hI hz ht hby s x ho base hs hown g c hx hblk hone hroom hbase h

theorem itm_new {w : World} {g : Nat} {k n : Int} {b l : Value} {t : TypeId} (hg : w.heap.size = g) : ItmCells (w.alloc (.cells #[.int .i64 k, .int .i64 n, b, l] t)) g 0 k n b l := by
  have h : Blk (w.alloc (.cells #[.int .i64 k, .int .i64 n, b, l] t)) g t #[.int .i64 k, .int .i64 n, b, l] := Blk.new hg rfl
  exact ⟨h.val rfl, h.val rfl, h.val rfl, h.val rfl⟩

theorem OwnQ.set {e : TypeId} {w : World} {base : Nat} {v : Value} {qs : List Quad} (h : OwnQ e w base v qs) {a : Addr} (ha : a.block < base) (x : Value) : OwnQ e (w.setCell a x) base v qs := by
  refine ⟨h.1, ?_⟩
  rcases h.2 with hn | ⟨g, cap, cur, rfl, hb, hg, rest⟩
  · exact .inl hn
  · exact .inr ⟨g, cap, cur, rfl, hb, by rw [Below.heap_setCell w a x g (by omega)]; exact hg, rest⟩
end Go.Sp
namespace Go.Proofs.YtoaomjdpiealfaaGreatDoor
open Go.RowKit Go.Sp
set_option maxHeartbeats 2000000
set_option maxRecDepth 20000

theorem within_1 (D k n : Int) (b l : Value) (g : Nat) (w : World) (hb : w.cell? ⟨g, 0, none⟩ = some (.int .i64 D)) (h1 : 1 ≤ D) (h8 : D ≤ 8)
    (hf : ∀ w', Up w w' → Calls Tryz.prog 202 #[itm k n b l, .int .i64 (D - 1)] w' fun e w'' => e = .returned (.bool true) ∧ Up w' w'') :
    Calls Tryz.prog 225 #[itm k n b l, .pointer (some ⟨g, 0, none⟩)] w fun e w' => e = .returned (.bool false) ∧ Up w w' := by
  have HF := hid hf
  clear hf
  go_enter Tryz.func225, Tryz.ntmps225
  have lg := cell_in hb
  go_wp2_with fail
  refine (HF.out _ ((Up.refl w).alloc _)).mono ?_
  rintro e w1 ⟨rfl, hU1⟩
  go_wp2
  go_ret
  exact ⟨rfl, ((Up.refl w).alloc _).trans hU1⟩

theorem IndexFuncQ (c : Value) (ess : List (List Int)) (R : Int → Int → Value → Value → List Int → Prop) (v : Value) (w : World) (hv : ItmRow R w v ess)
    (hf : ∀ k n b l es, R k n b l es → ∀ w', Up w w' → Calls Tryz.prog 225 #[itm k n b l, c] w' fun e w'' => e = .returned (.bool false) ∧ Up w' w'') :
    Calls Tryz.prog 230 #[v, .func (.func 225) #[] #[c]] w fun e w' => e = .returned (.int .i64 (-1)) ∧ Up w w' := by
  have HF := hid hf
  clear hf
  obtain ⟨a, cap, rfl, hc, hc63, _, hi⟩ := hv
  obtain ⟨m, hm⟩ : ∃ m, ess.length = m := ⟨_, rfl⟩
  rw [hm] at hc hi
  rw [hm]
  have HI := hid hi
  clear hi hm
  go_enter Tryz.func230, Tryz.ntmps230
  go_wp2_with fail
  go_loopw [8] (fun vi wr => ∃ i : Nat, i ≤ m ∧ vi = .int .i64 i ∧ Hid (Up w wr)) (fun vi _ => m - (intOf vi).toNat)
  case atStart => exact ⟨0, by omega, rfl, hid (Up.refl _)⟩
  case round =>
    obtain ⟨i, him, rfl, HU⟩ := hrel
    by_cases hl : i < m
    · obtain ⟨b, off, k, n, vb, vl, rfl, hc, hr⟩ := HI.out i hl
      obtain ⟨c0, c1, c2, c3⟩ := hc.up HU.out
      have HE := hid (HF.out k n vb vl _ hr)
      clear hc hr
      go_wp2_with fail
      refine (HE.out _ HU.out).mono ?_
      rintro e w2 ⟨rfl, hU2⟩
      have HU2 := hid (HU.out.trans hU2)
      clear hU2 c0 c1 c2 c3 HE
      go_wp2_with fail
      go_roundw
      case rel => exact ⟨i + 1, by omega, by go_num, HU2⟩
      case measure => simp [intOf]; omega
    · have hl2 : decide (i < m) = false := by simpa using hl
      go_wp2
      go_ret
      exact ⟨rfl, HU.out⟩

theorem ContainsFuncQ (c : Value) (ess : List (List Int)) (R : Int → Int → Value → Value → List Int → Prop) (v : Value) (w : World) (hv : ItmRow R w v ess)
    (hf : ∀ k n b l es, R k n b l es → ∀ w', Up w w' → Calls Tryz.prog 225 #[itm k n b l, c] w' fun e w'' => e = .returned (.bool false) ∧ Up w' w'') :
    Calls Tryz.prog 224 #[v, .func (.func 225) #[] #[c]] w fun e w' => e = .returned (.bool false) ∧ Up w w' := by
  have HI := hid (IndexFuncQ c ess R v w hv hf)
  clear hf hv
  go_enter Tryz.func224, Tryz.ntmps224
  go_wp2_with fail
  refine HI.out.mono ?_
  rintro e w2 ⟨rfl, hU2⟩
  go_wp2
  go_ret
  exact ⟨rfl, hU2⟩

theorem within_list (D : Int) (v : Value) (ess : List (List Int)) (R : Int → Int → Value → Value → List Int → Prop) (w : World) (h1 : 1 ≤ D) (h8 : D ≤ 8) (hl : ess.length ≤ 1000) (hv : ItmRow R w v ess)
    (hf : ∀ k n b l es, R k n b l es → ∀ w', Up w w' → Calls Tryz.prog 202 #[itm k n b l, .int .i64 (D - 1)] w' fun e w'' => e = .returned (.bool true) ∧ Up w' w'') :
    Calls Tryz.prog 202 #[itm 3 0 nilS v, .int .i64 D] w fun e w' => e = .returned (.bool true) ∧ Up w w' := by
  have HF := hid hf
  have HV := hid hv
  obtain ⟨a, cap, rfl, hc, hc63, _, _⟩ := hv
  obtain ⟨m, hm⟩ : ∃ m, ess.length = m := ⟨_, rfl⟩
  rw [hm] at HV hl hc
  rw [hm]
  have d1 : decide (D > 0) = true := by simp; omega
  have d2 : decide ((m : Int) ≤ 1000) = true := by simp; omega
  clear hf hm
  go_enter Tryz.func202, Tryz.ntmps202
  go_wp2_with fail
  have hg : ((w.alloc (.cells #[.int .i64 3, .int .i64 0, nilS, .slice a m cap] 142)).alloc (.cells #[.int .i64 D] 3)).cell? ⟨w.heap.size + 1, 0, none⟩ = some (.int .i64 D) := (Blk.new (cs := #[.int .i64 D]) (t := 3) (w := w.alloc (.cells #[.int .i64 3, .int .i64 0, nilS, .slice a m cap] 142)) (by simp) rfl).val rfl
  have HG := hid hg
  clear hg
  refine (ContainsFuncQ (.pointer (some ⟨w.heap.size + 1, 0, none⟩)) ess R _ _ (HV.out.up (((Up.refl w).alloc _).alloc _) fun _ _ _ _ _ h => h) (fun k n b l es hr w' hU => within_1 D k n b l _ w' (by rw [hU.cell (cell_in HG.out)]; exact HG.out) h1 h8 fun w'' hU2 => HF.out k n b l es hr w'' ((((Up.refl w).alloc _).alloc _).trans (hU.trans hU2)))).mono ?_
  rintro e w1 ⟨rfl, hU1⟩
  go_wp2
  go_ret
  exact ⟨rfl, (((Up.refl w).alloc _).alloc _).trans hU1⟩

theorem within_leaf (D k n : Int) (b l : Value) (es : List Int) (w : World) (h : Leaf w k n b l es) :
    Calls Tryz.prog 202 #[itm k n b l, .int .i64 D] w fun e w' => e = .returned (.bool true) ∧ Up w w' := by
  rcases h with ⟨rfl, rfl, rfl, _⟩ | ⟨rfl, rfl, rfl, xs, h, _⟩
  · go_enter Tryz.func202, Tryz.ntmps202
    go_wp2
    go_ret
    exact ⟨rfl, ((Up.refl w).alloc _).alloc _⟩
  · obtain ⟨a, cap, rfl, _⟩ := h
    go_enter Tryz.func202, Tryz.ntmps202
    go_wp2
    go_ret
    exact ⟨rfl, ((Up.refl w).alloc _).alloc _⟩

theorem within_ok : ∀ (d : Nat) (D k n : Int) (b l : Value) (es : List Int) (w : World), (d : Int) ≤ D → D ≤ 8 → ItmAt w d k n b l es →
    Calls Tryz.prog 202 #[itm k n b l, .int .i64 D] w fun e w' => e = .returned (.bool true) ∧ Up w w'
  | 0, D, k, n, b, l, es, w, _, _, h => within_leaf D k n b l es w h
  | d + 1, D, k, n, b, l, es, w, h1, h8, h => by
    rcases h with h | ⟨rfl, rfl, rfl, ess, hl, hr, _⟩
    · exact within_leaf D k n b l es w h
    · exact within_list D l ess _ w (by omega) h8 hl hr fun k n b l es h w' hU => within_ok d (D - 1) k n b l es w' (by omega) (by omega) (h.up hU)

theorem encValid_ok {d : Nat} {k n : Int} {b l : Value} {es : List Int} {w : World} (h : ItmAt w d k n b l es) (hd : d ≤ 8) :
    Calls Tryz.prog 164 #[itm k n b l] w fun e w' => e = .returned (.bool true) ∧ Up w w' := by
  have HW := hid (fun w' (hU : Up w w') => within_ok d 8 k n b l es w' (by omega) (by omega) (h.up hU))
  clear h
  go_enter Tryz.func164, Tryz.ntmps164
  go_wp2_with fail
  refine (HW.out _ ((Up.refl w).alloc _)).mono ?_
  rintro e w1 ⟨rfl, hU1⟩
  go_wp2
  go_ret
  exact ⟨rfl, ((Up.refl w).alloc _).trans hU1⟩

theorem beL_snoc (size : Nat) (n : Int) (i : Nat) (hi : i < size) : (beL size n).take (i + 1) = (beL size n).take i ++ [n / 2 ^ (8 * (size - 1 - i)) % 256] := by
  rw [List.take_add_one]
  congr 1
  have : i < (beL size n).length := by rw [beL_length]; exact hi
  rw [List.getElem?_eq_getElem this]
  simp [beL]
end Go.Proofs.YtoaomjdpiealfaaGreatDoor
