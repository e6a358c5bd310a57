/- Package draw: errors, results. Package draw: Next. Package draw: Nonzero. Package draw: New. Package draw: Bytes. -/
import Derived.Test.YtdbhleinhpiohaaGreatDoorMB14
import Derived.Test.YtdbhleinhpiohaaGreatDoorMB13
namespace Go.Proofs.YtdbhleinhpiohaaGreatDoor
open Go.RowKit Go.Sp
set_option maxHeartbeats 2000000
set_option maxRecDepth 20000

theorem zero33 : #[.int .u8 0, .int .u8 0, .int .u8 0, .int .u8 0, .int .u8 0, .int .u8 0, .int .u8 0, .int .u8 0, .int .u8 0, .int .u8 0, .int .u8 0, .int .u8 0, .int .u8 0, .int .u8 0, .int .u8 0, .int .u8 0,
    .int .u8 0, .int .u8 0, .int .u8 0, .int .u8 0, .int .u8 0, .int .u8 0, .int .u8 0, .int .u8 0, .int .u8 0, .int .u8 0, .int .u8 0, .int .u8 0, .int .u8 0, .int .u8 0, .int .u8 0, .int .u8 0, .int .i64 0] = drwA zeroH 0 := by kernel_rfl
/-- The error of a source and a number in a range. -/
def chkE (c n lo hi : Int) : Int := if dvB c = true then (if lo ≤ n ∧ n ≤ hi then 0 else 2) else 1

end Go.Proofs.YtdbhleinhpiohaaGreatDoor
namespace Go.Proofs.YtdbhleinhpiohaaGreatDoor
open Go.RowKit Go.Sp
set_option maxHeartbeats 2000000
set_option maxRecDepth 20000

/-- What Next returns. -/
def nxtV (h : Nat → Int) (c q : Int) : Value :=
  if chkE c q 1 2305843009213693951 = 0 then .tuple #[bif (numT h q 256 c 0).2.2 then drw zeroH 0 else drw h (numT h q 256 c 0).2.1, .int .i64 (numT h q 256 c 0).1, .int .i64 (bif (numT h q 256 c 0).2.2 then 5 else 0)]
  else .tuple #[drw zeroH 0, .int .i64 0, .int .i64 (chkE c q 1 2305843009213693951)]

theorem chk_iff {c n lo hi : Int} : chkE c n lo hi = 0 ↔ (0 ≤ c ∧ c ≤ 1099511627776) ∧ lo ≤ n ∧ n ≤ hi := by
  unfold chkE
  rw [← dvB_iff]
  by_cases h1 : dvB c = true
  · by_cases h2 : lo ≤ n ∧ n ≤ hi
    · simp [h1, h2]
    · simp [h1, h2]
  · simp [h1]

theorem Up.grownNew {w w1 w2 : World} {b : Nat} (hU : Up w w1) (hg : w1.grownBy w2 (some b)) (hb : w.heap.size ≤ b) : Up w w2 :=
  Below.grown hU.below hg hU.size (fun k hk => by simp at hk; omega)

end Go.Proofs.YtdbhleinhpiohaaGreatDoor
namespace Go.Proofs.YtdbhleinhpiohaaGreatDoor
open Go.RowKit Go.Sp
set_option maxHeartbeats 2000000
set_option maxRecDepth 20000

theorem numT_range {h : Nat → Int} {q : Int} : ∀ (n : Nat) (c x : Int), 0 ≤ c → c ≤ 1099511627776 → c ≤ (numT h q n c x).2.1 ∧ (numT h q n c x).2.1 ≤ 1099511627776
  | 0, c, x, h0, h1 => ⟨Int.le_refl _, h1⟩
  | n + 1, c, x, h0, h1 => by
    by_cases hc : c = 1099511627776
    · rw [numT, if_pos hc]; exact ⟨Int.le_refl _, h1⟩
    · rw [numT, if_neg hc]
      split
      · exact ⟨by simp; omega, by simp; omega⟩
      · have := numT_range (h := h) (q := q) n (c + 1) (firK (shaB (posL h c)) 8 % 2 ^ maskN q) (by omega) (by omega)
        omega

/-- A number other than 0: the number, the counter, and whether there was no block. -/
def nzT (h : Nat → Int) (q : Int) : Nat → Int → Int × Int × Bool
  | 0, c => (1, c, false)
  | n + 1, c => if (numT h q 256 c 0).2.2 = true then (0, c, true) else if (numT h q 256 c 0).1 ≠ 0 then ((numT h q 256 c 0).1, (numT h q 256 c 0).2.1, false) else nzT h q n (numT h q 256 c 0).2.1

/-- What Nonzero returns. -/
def nznV (h : Nat → Int) (c q : Int) : Value :=
  if chkE c q 2 2305843009213693951 = 0 then .tuple #[bif (nzT h q 256 c).2.2 then drw zeroH 0 else drw h (nzT h q 256 c).2.1, .int .i64 (nzT h q 256 c).1, .int .i64 (bif (nzT h q 256 c).2.2 then 5 else 0)]
  else .tuple #[drw zeroH 0, .int .i64 0, .int .i64 (chkE c q 2 2305843009213693951)]

theorem nzT_full {h : Nat → Int} {q : Int} {n : Nat} {c : Int} (hf : (numT h q 256 c 0).2.2 = true) : nzT h q (n + 1) c = (0, c, true) := by rw [nzT, if_pos hf]
theorem nzT_num {h : Nat → Int} {q : Int} {n : Nat} {c : Int} (hf : (numT h q 256 c 0).2.2 = false) (h1 : (numT h q 256 c 0).1 ≠ 0) : nzT h q (n + 1) c = ((numT h q 256 c 0).1, (numT h q 256 c 0).2.1, false) := by
  rw [nzT, if_neg (by simp [hf]), if_pos h1]
theorem nzT_next {h : Nat → Int} {q : Int} {n : Nat} {c : Int} (hf : (numT h q 256 c 0).2.2 = false) (h1 : (numT h q 256 c 0).1 = 0) : nzT h q (n + 1) c = nzT h q n (numT h q 256 c 0).2.1 := by
  rw [nzT, if_neg (by simp [hf]), if_neg (by simp [h1])]

end Go.Proofs.YtdbhleinhpiohaaGreatDoor
namespace Go.Proofs.YtdbhleinhpiohaaGreatDoor
open Go.RowKit Go.Sp
set_option maxHeartbeats 2000000
set_option maxRecDepth 20000

/-- The text ahead of a source's seed. -/
def drawTag : ByteArray := { data := #[115, 112, 101, 99, 105, 101, 47, 100, 114, 97, 119] }

/-- What New returns. -/
def newV (xs : List Int) : Value := if xs.length ≤ 16384 then .tuple #[drw (tagB (txt drawTag) xs) 0, .int .i64 0] else .tuple #[drw zeroH 0, .int .i64 5]

end Go.Proofs.YtdbhleinhpiohaaGreatDoor
namespace Go.Proofs.YtdbhleinhpiohaaGreatDoor
open Go.RowKit Go.Sp
set_option maxHeartbeats 2000000
set_option maxRecDepth 20000

/-- The bytes of k blocks. -/
def catL (h : Nat → Int) (c : Int) : Nat → List Int
  | 0 => []
  | k + 1 => catL h c k ++ hList (shaB (posL h (c + k)))
theorem catL_length (h : Nat → Int) (c : Int) : ∀ k, (catL h c k).length = 32 * k
  | 0 => rfl
  | k + 1 => by rw [catL, List.length_append, catL_length h c k, hList_length]; omega

/-- How many blocks serve for n bytes. -/
def needB (n : Int) : Int := (n + 31) / 32
/-- The error of Bytes. -/
def bytE (c n : Int) : Int := if chkE c n 0 16384 = 0 then (if c + needB n ≤ 1099511627776 then 0 else 5) else chkE c n 0 16384
/-- The bytes that Bytes returns, and the source. -/
def bytL (h : Nat → Int) (c n : Int) : List Int := if bytE c n = 0 then (catL h c (needB n).toNat).take n.toNat else []
def bytD (h : Nat → Int) (c n : Int) : Value := if bytE c n = 0 then drw h (c + needB n) else drw zeroH 0

theorem own_grown {e : TypeId} {k : IntKind} {w w' : World} {base b : Nat} {v : Value} {xs : List Int} (h : OwnS e k w base v xs) (hg : w.grownBy w' (some b)) (hb : b < base) : OwnS e k w' base v xs := by
  refine ⟨h.1, ?_⟩
  rcases h.2 with h2 | ⟨g, cap, cur, h1, h2, h3, h4⟩
  · exact .inl h2
  · exact .inr ⟨g, cap, cur, h1, h2, by rw [hg.block g (Array.getElem?_eq_some_iff.1 h3).1 (by simp; omega)]; exact h3, h4⟩

theorem step_load_row {P : Program} {ops : Array Oper} {o : Oper} {a : Act} {w : World} {K : Act → World → Prop} {Q : Exit → Act → World → Prop} {E : Prop} (hgd : o.guard = none) (ty : TypeId) (x : Operand) (ho : o.op = .load ty x)
    (g : Nat) (hx : a.eval x = .pointer (some ⟨g, 0, none⟩)) (t : TypeId) (cs : Array Value) (fr : Nat × Nat) (d : TypeDesc) (hg : w.heap[g]? = some (.cells cs t fr))
    (hu : P.underlying ty = some d) (hd : (match d with | .struct _ | .array _ _ => true | _ => false) = true) (hi : (P.info? ty).map (·.size) = some cs.size)
    (h : K (a.put o.dst (.agg cs)) w) : if Region.wanted o (yielded ops a.tmps) = true then Oper.wp P o a w K Q else E := by
  have hw : Region.wanted o (yielded ops a.tmps) = true := by simp [Region.wanted, hgd]
  rw [if_pos hw]
  exact wp_load_row ty x ho g hx t cs fr d hg hu hd hi h

theorem grown_own (w : World) (o : Nat) (cs : Array Value) : w.grownBy (w.setRow o cs) (some o) := by
  have hz := below_setRow ((Up.refl w).below.mono (Nat.zero_le _)) (B := 0) (g := o) (Nat.zero_le _) cs
  exact ⟨hz.os, hz.tape, hz.output, hz.size, fun k _ hr => setRow_other w o k cs (fun e => hr (by rw [e]))⟩

theorem seq_cut {k : IntKind} {w : World} {a : Option Addr} {n cap m : Nat} {xs : List Int} (h : SeqAt k w (.slice a n cap) xs) (h2 : m ≤ n) : SeqAt k w (.slice a m m) (xs.take m) := by
  have hf := h.front h2
  obtain ⟨a', cap', hv, h3, h4, h5, hc⟩ := hf
  simp only [Value.slice.injEq] at hv
  obtain ⟨rfl, hm, rfl⟩ := hv
  refine ⟨a, m, by rw [← hm], by omega, by omega, fun e => ?_, hc⟩
  have := h5 e
  omega

theorem blk_range {w : World} {b : Nat} {t : TypeId} {cs : Array Value} (hb : Blk w b t cs) : w.rangeAt b 0 cs.toList := fun j v hv => by
  rw [Nat.zero_add, hb.read, ← hv, Array.getElem?_toList]

theorem op_store_row {P : Program} {o : Oper} {a : Act} {w : World} {K : Act → World → Prop} {Q : Exit → Act → World → Prop} (ty : TypeId) (x y : Operand) (ho : o.op = .store ty x y) (hd : o.dst = none)
    (g : Nat) (cells : Array Value) (hx : a.eval x = .pointer (some ⟨g, 0, none⟩)) (hy : a.eval y = .agg cells)
    (t : TypeId) (old : Array Value) (hg : w.heap[g]? = some (.cells old t (0, 0))) (hi : (P.info? ty).map (·.size) = some cells.size)
    (hold : old.size = cells.size) (h1 : cells.all (·.oneCell') = true)
    (h : K a (w.setRow g cells)) : o.wp P a w K Q := wp_store_row ty x y ho g cells hx hy t old hg hi hold h1 (by rw [hd]; exact h)

def BytOut (h : Nat → Int) (c n : Int) (w : World) (e : Ending) (w' : World) : Prop :=
  ∃ v, e = .returned (.tuple #[bytD h c n, v, .int .i64 (bytE c n)]) ∧ SeqAt .u8 w' v (bytL h c n) ∧ Up w w'

end Go.Proofs.YtdbhleinhpiohaaGreatDoor
