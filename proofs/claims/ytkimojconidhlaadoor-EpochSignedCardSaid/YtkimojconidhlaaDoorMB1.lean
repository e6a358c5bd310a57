/- DERIVED: THE SHELF's CONTRACTS AT THIS DUMP, IN PLAIN WORDS (tools/lay-plain.mjs out of 'TrydShelf.lean', which tools/lay-shelf.mjs wrote): THE SAME DECLARATIONS UNDER THE SAME NAMES: 'import', 'namespace', 'open', 'def', 'theorem' AND NOTHING ELSE: no command of the shelf's: FOR A HAND-IN. Each laying: the table of numbers ('.._ren') and one theorem, a field a fact of the dump's own or the kernel's comparison; each contract: ONE APPLICATION. SHA-256 on integers, as both texts compute it. No program in sight. The frame of all contracts: 'Up w w'': what was there when the call began is there still. Slices of numbers of any kind: read, owned, appended to. Over any program. Blocks that are known whole; rows of numbers. Over any program. -/
import Derived.Test.YtkimojconidhlaaDoorProg
import Derived.Shelf.Small.Bits
import Derived.Shelf.Strconv.Itoa0
import Derived.Shelf.Bits.Mul64
import Derived.WalkKit
import Derived.Laws.BitsAllLaws
import Derived.WalkSpells
import Derived.Handy
import Derived.WalkSmall
import Derived.Laws.AppendOwnNone
import Derived.Laws.OwnMore
import Derived.Laws.CopyOwn
import Derived.Laws.Tables
import Derived.Laws.Rows
namespace Go.Proofs.YtkimojconidhlaaDoor
open Go.Shelf
def Tryd.lays134_ren : Go.Shelf.Ren := ⟨fun | 134 => 97 | 129 => 81 | n => n, fun | 53 => 104 | 3 => 3 | 4 => 4 | 46 => 129 | 5 => 5 | 9 => 9 | n => n, fun | n => n⟩
theorem Tryd.lays134 : Go.Proofs.Lays.n134 Tryd.prog Tryd.lays134_ren := {
  mixed := by kernel_rfl
  f129 := Tryd.func81.trans (congrArg some (by kernel_rfl))
  f134 := Tryd.func97.trans (congrArg some (by kernel_rfl))
  t3 := Tryd.underlying3
  a3 := Tryd.isAgg3
  z3 := Tryd.sizeOf3
  v3 := Tryd.zeroValue3
  t4 := Tryd.underlying4
  a4 := Tryd.isAgg4
  z4 := Tryd.sizeOf4
  v4 := Tryd.zeroValue4
  t5 := Tryd.underlying5
  a5 := Tryd.isAgg5
  z5 := Tryd.sizeOf5
  v5 := Tryd.zeroValue5
  t9 := Tryd.underlying9
  a9 := Tryd.isAgg9
  z9 := Tryd.sizeOf9
  v9 := Tryd.zeroValue9
  t46 := Tryd.underlying129
  a46 := Tryd.isAgg129
  z46 := Tryd.sizeOf129
  v46 := Tryd.zeroValue129
  t53 := Tryd.underlying104
  a53 := Tryd.isAgg104
  z53 := Tryd.sizeOf104
  v53 := Tryd.zeroValue104 }
/-- bits.LeadingZeros64: "LeadingZeros64 returns the number of leading zero bits in x; the result is 64 for x == 0.": IT RETURNS '64 - Lib.bitLen x'; the world is as it was. ITS CALLEE bits.Len64 IS MET BY ITS OWN CONTRACT OFF THE SHELF (lay that first): entered in place it sends the kernel out of memory. (LAID: no walk: one application.) -/
theorem Tryd.bits_LeadingZeros64 (x : Int) (w : World) (h0 : 0 ≤ x) (h1 : x ≤ 18446744073709551615) :
    Calls Tryd.prog 97 #[.int .u64 x] w fun e w' => e = .returned (.int .i64 (64 - (Lib.bitLen x.toNat : Int))) ∧ w' = w := Any.bits_LeadingZeros64 Tryd.lays134 x w h0 h1
def Tryd.lays129_ren : Go.Shelf.Ren := ⟨fun | 129 => 81 | n => n, fun | 53 => 104 | 3 => 3 | 4 => 4 | 46 => 129 | 5 => 5 | 9 => 9 | n => n, fun | n => n⟩
theorem Tryd.lays129 : Go.Proofs.Lays.n129 Tryd.prog Tryd.lays129_ren := {
  mixed := by kernel_rfl
  f129 := Tryd.func81.trans (congrArg some (by kernel_rfl))
  t3 := Tryd.underlying3
  a3 := Tryd.isAgg3
  z3 := Tryd.sizeOf3
  v3 := Tryd.zeroValue3
  t4 := Tryd.underlying4
  a4 := Tryd.isAgg4
  z4 := Tryd.sizeOf4
  v4 := Tryd.zeroValue4
  t5 := Tryd.underlying5
  a5 := Tryd.isAgg5
  z5 := Tryd.sizeOf5
  v5 := Tryd.zeroValue5
  t9 := Tryd.underlying9
  a9 := Tryd.isAgg9
  z9 := Tryd.sizeOf9
  v9 := Tryd.zeroValue9
  t46 := Tryd.underlying129
  a46 := Tryd.isAgg129
  z46 := Tryd.sizeOf129
  v46 := Tryd.zeroValue129
  t53 := Tryd.underlying104
  a53 := Tryd.isAgg104
  z53 := Tryd.sizeOf104
  v53 := Tryd.zeroValue104 }
/-- bits.Len64: "Len64 returns the minimum number of bits required to represent x; the result is 0 for x == 0.": IT RETURNS 'Lib.bitLen x'; the world is as it was. ('h0', 'h1': x is a uint64.) (LAID: no walk: one application.) -/
theorem Tryd.bits_Len64 (x : Int) (w : World) (h0 : 0 ≤ x) (h1 : x ≤ 18446744073709551615) :
    Calls Tryd.prog 81 #[.int .u64 x] w fun e w' => e = .returned (.int .i64 (Lib.bitLen x.toNat)) ∧ w' = w := Any.bits_Len64 Tryd.lays129 x w h0 h1
def Tryd.lays264_ren : Go.Shelf.Ren := ⟨fun | 264 => 87 | n => n, fun | 53 => 104 | 46 => 129 | n => n, fun | n => n⟩
theorem Tryd.lays264 : Go.Proofs.Lays.n264 Tryd.prog Tryd.lays264_ren := {
  mixed := by kernel_rfl
  f264 := Tryd.func87.trans (congrArg some (by kernel_rfl))
  t46 := Tryd.underlying129
  a46 := Tryd.isAgg129
  z46 := Tryd.sizeOf129
  v46 := Tryd.zeroValue129
  t53 := Tryd.underlying104
  a53 := Tryd.isAgg104
  z53 := Tryd.sizeOf104
  v53 := Tryd.zeroValue104 }
open Go.RowKit Go.Lib in
theorem Tryd.bits_Mul64 (x y : Nat) (hx : x < 18446744073709551616) (hy : y < 18446744073709551616) (w : World) :
    Calls Tryd.prog 87 #[.int .u64 x, .int .u64 y] w fun e w' => e = .returned (.tuple #[.int .u64 ((x * y / 18446744073709551616 : Nat) : Int), .int .u64 ((x * y % 18446744073709551616 : Nat) : Int)]) ∧ w' = w := Any.bits_Mul64 Tryd.lays264 x y hx hy w
end Go.Proofs.YtkimojconidhlaaDoor
namespace Go.Sp

/-- A word rotated to the right. -/
def rotr (x : Int) (n : Nat) : Int := bits .or .u32 (x / 2 ^ n) (IntKind.u32.wrap (x * 2 ^ (32 - n)))
def sg0 (x : Int) : Int := bits .xor .u32 (bits .xor .u32 (rotr x 7) (rotr x 18)) (x / 8)
def sg1 (x : Int) : Int := bits .xor .u32 (bits .xor .u32 (rotr x 17) (rotr x 19)) (x / 1024)
def bs0 (x : Int) : Int := bits .xor .u32 (bits .xor .u32 (rotr x 2) (rotr x 13)) (rotr x 22)
def bs1 (x : Int) : Int := bits .xor .u32 (bits .xor .u32 (rotr x 6) (rotr x 11)) (rotr x 25)
def chs (e f g : Int) : Int := bits .xor .u32 (bits .and .u32 e f) (bits .and .u32 (bits .xor .u32 4294967295 e) g)
def maj (a b c : Int) : Int := bits .xor .u32 (bits .xor .u32 (bits .and .u32 a b) (bits .and .u32 a c)) (bits .and .u32 b c)
/-- A sum of words. -/
def plus (a b : Int) : Int := IntKind.u32.wrap (a + b)

theorem u32_range (n : Int) : 0 ≤ IntKind.u32.wrap n ∧ IntKind.u32.wrap n ≤ 4294967295 := by
  rw [IntKind.wrap_u32]; omega
theorem bits_range (op : BinOp) (a b : Int) : 0 ≤ bits op .u32 a b ∧ bits op .u32 a b ≤ 4294967295 := u32_range _
theorem rotr_range (x : Int) (n : Nat) : 0 ≤ rotr x n ∧ rotr x n ≤ 4294967295 := bits_range _ _ _
theorem plus_range (a b : Int) : 0 ≤ plus a b ∧ plus a b ≤ 4294967295 := u32_range _

theorem bits_or_comm (a b : Int) : bits .or .u32 a b = bits .or .u32 b a := by
  show IntKind.u32.wrap ((BitVec.ofInt 32 a ||| BitVec.ofInt 32 b).toNat : Int) = IntKind.u32.wrap ((BitVec.ofInt 32 b ||| BitVec.ofInt 32 a).toNat : Int)
  rw [BitVec.or_comm]

/-- The k-th word of a block of bytes. -/
def wordB (b : Nat → Int) (k : Nat) : Int := ((b (4 * k) * 256 + b (4 * k + 1)) * 256 + b (4 * k + 2)) * 256 + b (4 * k + 3)

/-- The words of a block. -/
def wAt (b : Nat → Int) (t : Nat) : Int :=
  if t < 16 then wordB b t else plus (plus (plus (wAt b (t - 16)) (sg0 (wAt b (t - 15)))) (wAt b (t - 7))) (sg1 (wAt b (t - 2)))
termination_by t
decreasing_by all_goals omega

theorem wAt_low {b : Nat → Int} {t : Nat} (h : t < 16) : wAt b t = wordB b t := by rw [wAt, if_pos h]
theorem wAt_high {b : Nat → Int} {t : Nat} (h : 16 ≤ t) : wAt b t = plus (plus (plus (wAt b (t - 16)) (sg0 (wAt b (t - 15)))) (wAt b (t - 7))) (sg1 (wAt b (t - 2))) := by
  rw [wAt, if_neg (by omega)]

/-- Bytes. -/
def Byt (b : Nat → Int) : Prop := ∀ i, 0 ≤ b i ∧ b i ≤ 255

theorem wordB_range {b : Nat → Int} (h : Byt b) (k : Nat) : 0 ≤ wordB b k ∧ wordB b k ≤ 4294967295 := by
  have h0 := h (4 * k)
  have h1 := h (4 * k + 1)
  have h2 := h (4 * k + 2)
  have h3 := h (4 * k + 3)
  unfold wordB; omega

theorem wAt_range {b : Nat → Int} (h : Byt b) (t : Nat) : 0 ≤ wAt b t ∧ wAt b t ≤ 4294967295 := by
  by_cases ht : t < 16
  · rw [wAt_low ht]; exact wordB_range h t
  · rw [wAt_high (by omega)]; exact plus_range _ _

/-- Eight words. -/
structure St where
  (a b c d e f g h : Int)

def St.get (s : St) : Nat → Int
  | 0 => s.a | 1 => s.b | 2 => s.c | 3 => s.d | 4 => s.e | 5 => s.f | 6 => s.g | _ => s.h

/-- The constants of the rounds. -/
def shaK : List Int := [0x428a2f98, 0x71374491, 0xb5c0fbcf, 0xe9b5dba5, 0x3956c25b, 0x59f111f1, 0x923f82a4, 0xab1c5ed5,
  0xd807aa98, 0x12835b01, 0x243185be, 0x550c7dc3, 0x72be5d74, 0x80deb1fe, 0x9bdc06a7, 0xc19bf174,
  0xe49b69c1, 0xefbe4786, 0x0fc19dc6, 0x240ca1cc, 0x2de92c6f, 0x4a7484aa, 0x5cb0a9dc, 0x76f988da,
  0x983e5152, 0xa831c66d, 0xb00327c8, 0xbf597fc7, 0xc6e00bf3, 0xd5a79147, 0x06ca6351, 0x14292967,
  0x27b70a85, 0x2e1b2138, 0x4d2c6dfc, 0x53380d13, 0x650a7354, 0x766a0abb, 0x81c2c92e, 0x92722c85,
  0xa2bfe8a1, 0xa81a664b, 0xc24b8b70, 0xc76c51a3, 0xd192e819, 0xd6990624, 0xf40e3585, 0x106aa070,
  0x19a4c116, 0x1e376c08, 0x2748774c, 0x34b0bcb5, 0x391c0cb3, 0x4ed8aa4a, 0x5b9cca4f, 0x682e6ff3,
  0x748f82ee, 0x78a5636f, 0x84c87814, 0x8cc70208, 0x90befffa, 0xa4506ceb, 0xbef9a3f7, 0xc67178f2]

def shaStart : St := ⟨0x6a09e667, 0xbb67ae85, 0x3c6ef372, 0xa54ff53a, 0x510e527f, 0x9b05688c, 0x1f83d9ab, 0x5be0cd19⟩

/-- What a round adds. -/
def rndX (s : St) (k w : Int) : Int := plus (plus (plus (plus s.h (bs1 s.e)) (chs s.e s.f s.g)) k) w
def rndY (s : St) : Int := plus (bs0 s.a) (maj s.a s.b s.c)
def rnd (s : St) (k w : Int) : St := ⟨plus (rndX s k w) (rndY s), s.a, s.b, s.c, plus s.d (rndX s k w), s.e, s.f, s.g⟩

/-- The state after t rounds over a block. -/
def rnds (b : Nat → Int) (s : St) : Nat → St
  | 0 => s
  | t + 1 => rnd (rnds b s t) (shaK.getD t 0) (wAt b t)

/-- A block mixed into the state. -/
def mixS (b : Nat → Int) (s : St) : St :=
  let v := rnds b s 64
  ⟨plus s.a v.a, plus s.b v.b, plus s.c v.c, plus s.d v.d, plus s.e v.e, plus s.f v.f, plus s.g v.g, plus s.h v.h⟩

theorem mixS_get (b : Nat → Int) (s : St) (i : Nat) : (mixS b s).get i = plus (s.get i) ((rnds b s 64).get i) := by
  unfold St.get mixS
  split <;> rfl

/-- A number in n bytes, the highest first. -/
def beL (n : Nat) (x : Int) : List Int := (List.range n).map fun i => x / 2 ^ (8 * (n - 1 - i)) % 256

theorem beL_length (n : Nat) (x : Int) : (beL n x).length = n := by simp [beL]

/-- The padded form. -/
def padL (xs : List Int) : List Int := xs ++ [128] ++ List.replicate ((119 - xs.length % 64) % 64) 0 ++ beL 8 (8 * xs.length)

theorem padL_length (xs : List Int) : (padL xs).length % 64 = 0 ∧ 64 ≤ (padL xs).length ∧ (padL xs).length ≤ xs.length + 72 := by
  simp [padL, beL_length]; omega

/-- A block of bytes. -/
def blkAt (p : List Int) (k : Nat) : Nat → Int := fun j => p.getD (64 * k + j) 0

/-- The state after k blocks. -/
def blocksS (p : List Int) : Nat → St
  | 0 => shaStart
  | k + 1 => mixS (blkAt p k) (blocksS p k)

/-- The bytes of a state. -/
def outB (s : St) (i : Nat) : Int := s.get (i / 4) / 2 ^ (24 - 8 * (i % 4)) % 256

/-- The digest of bytes. -/
def shaB (xs : List Int) : Nat → Int := outB (blocksS (padL xs) ((padL xs).length / 64))

/-- The 32 bytes of a digest as a list. -/
def hList (h : Nat → Int) : List Int := (List.range 32).map h
theorem hList_length (h : Nat → Int) : (hList h).length = 32 := by simp [hList]

/-- The tagged digest. -/
def tagB (tag xs : List Int) : Nat → Int := shaB (hList (shaB tag) ++ hList (shaB tag) ++ xs)

theorem outB_range (s : St) (i : Nat) : 0 ≤ outB s i ∧ outB s i ≤ 255 := by
  unfold outB
  constructor
  · exact Int.emod_nonneg _ (by decide)
  · have := Int.emod_lt_of_pos (s.get (i / 4) / 2 ^ (24 - 8 * (i % 4))) (show (0 : Int) < 256 by decide); omega
theorem shaB_range (xs : List Int) (i : Nat) : 0 ≤ shaB xs i ∧ shaB xs i ≤ 255 := outB_range _ _
theorem tagB_range (t xs : List Int) (i : Nat) : 0 ≤ tagB t xs i ∧ tagB t xs i ≤ 255 := outB_range _ _

/-- The number of a digest modulo m, of its first k bytes. -/
def numB (h : Nat → Int) (m : Int) : Nat → Int
  | 0 => 0
  | k + 1 => (numB h m k * 256 + h k) % m
def numH (h : Nat → Int) (m : Int) : Int := numB h m 16

theorem numB_range {h : Nat → Int} {m : Int} (hm : 0 < m) : ∀ k, 0 ≤ numB h m k ∧ numB h m k < m
  | 0 => ⟨Int.le_refl _, hm⟩
  | k + 1 => ⟨Int.emod_nonneg _ (by omega), Int.emod_lt_of_pos _ hm⟩

end Go.Sp
namespace Go.Sp
open Go.RowKit

theorem hid {p : Prop} (h : p) : Hid p := h

/-- Nothing that was there has turned. -/
def Up (w w' : World) : Prop := Below w.heap.size w w'

theorem Up.refl (w : World) : Up w w := Below.refl _ _
theorem Up.trans {a b c : World} (h : Up a b) (k : Up b c) : Up a c := Below.trans h (k.mono (Below.size h))
theorem Up.alloc {w w' : World} (h : Up w w') (o : Obj) : Up w (w'.alloc o) := Below.alloc h (Below.size h) o
theorem Up.drew {w w' : World} (h : Up w w') : Up w w'.drew := Below.drew h
theorem Up.drewN {w w' : World} (h : Up w w') (n : Nat) : Up w (w'.drewN n) := below_drewN h n
theorem Up.setCell {w w' : World} (h : Up w w') {a : Addr} (ha : w.heap.size ≤ a.block) (v : Value) : Up w (w'.setCell a v) := Below.setCell h ha v
theorem Up.size {w w' : World} (h : Up w w') : w.heap.size ≤ w'.heap.size := Below.size h
theorem Up.cell {w w' : World} (h : Up w w') {a : Addr} (ha : a.block < w.heap.size) : w'.cell? a = w.cell? a := Below.cell h ha
theorem Up.frozen {w w' : World} (h : Up w w') {a : Addr} (ha : a.block < w.heap.size) : w'.frozen? a = w.frozen? a := Below.frozen h ha
theorem Up.block {w w' : World} (h : Up w w') {k : Nat} (hk : k < w.heap.size) : w'.heap[k]? = w.heap[k]? := Below.block h k hk
theorem Up.below {w w' : World} (h : Up w w') : Below w.heap.size w w' := h

/-- Old cells, and their marks, read as they did: two rules for the walk. -/
theorem Up.reads {w w' : World} (h : Up w w') : (∀ b o, b < w.heap.size → w'.cell? ⟨b, o, none⟩ = w.cell? ⟨b, o, none⟩) ∧ (∀ b o, b < w.heap.size → w'.frozen? ⟨b, o, none⟩ = w.frozen? ⟨b, o, none⟩) :=
  ⟨fun _ _ hb => h.cell hb, fun _ _ hb => h.frozen hb⟩

end Go.Sp
namespace Go.Sp
open Go.RowKit

theorem cell_in {w : World} {b o : Nat} {v : Value} (h : w.cell? ⟨b, o, none⟩ = some v) : b < w.heap.size := by
  unfold World.cell? at h
  split at h
  · rename_i h1; exact (Array.getElem?_eq_some_iff.1 h1).1
  · cases h

/-- The slice v holds just these numbers. -/
def SeqAt (k : IntKind) (w : World) (v : Value) (xs : List Int) : Prop :=
  ∃ a cap, v = .slice a xs.length cap ∧ xs.length ≤ cap ∧ cap ≤ 9223372036854775807 ∧ (a = none → cap = 0) ∧ (xs ≠ [] → ∃ b off, a = some ⟨b, off, none⟩ ∧ ∀ i, i < xs.length → w.cell? ⟨b, off + i, none⟩ = some (.int k (xs.getD i 0)))

/-- The slice v is the call's own, and holds just these numbers. -/
def OwnS (e : TypeId) (k : IntKind) (w : World) (base : Nat) (v : Value) (xs : List Int) : Prop := w.ownsRow base e 1 v xs.length (xs.map (Value.int k))

section
variable {k : IntKind} {e : TypeId} {w w' : World} {base : Nat} {v : Value} {xs ys : List Int}

theorem SeqAt.up (h : SeqAt k w v xs) (hU : Up w w') : SeqAt k w' v xs := by
  obtain ⟨a, cap, h2, hle, hmx, hn, h3⟩ := h
  refine ⟨a, cap, h2, hle, hmx, hn, fun hne => ?_⟩
  obtain ⟨b, off, ha, hc⟩ := h3 hne
  exact ⟨b, off, ha, fun i hi => by rw [hU.cell (cell_in (hc i hi))]; exact hc i hi⟩

theorem SeqAt.shape (h : SeqAt k w v xs) : ∃ a cap, v = .slice a xs.length cap ∧ xs.length ≤ cap ∧ cap ≤ 9223372036854775807 := by
  obtain ⟨a, cap, h2, h3, h4, _⟩ := h
  exact ⟨a, cap, h2, h3, h4⟩

theorem SeqAt.len (h : SeqAt k w v xs) : xs.length ≤ 9223372036854775807 := by
  obtain ⟨a, cap, h2, h3, h4, _⟩ := h
  omega

theorem SeqAt.cell (h : SeqAt k w v xs) {i : Nat} (hi : i < xs.length) : ∃ b off cap, v = .slice (some ⟨b, off, none⟩) xs.length cap ∧ w.cell? ⟨b, off + i, none⟩ = some (.int k (xs.getD i 0)) := by
  obtain ⟨a, cap, h2, _, _, _, h3⟩ := h
  obtain ⟨b, off, ha, hc⟩ := h3 (by rintro rfl; simp at hi)
  exact ⟨b, off, cap, by rw [h2, ha], hc i hi⟩

theorem seq_none : SeqAt k w (.slice none 0 0) [] := ⟨none, 0, rfl, Nat.le_refl _, by omega, fun _ => rfl, fun h => absurd rfl h⟩
theorem seq_zero (a : Addr) (c : Nat) (hc : c ≤ 9223372036854775807) : SeqAt k w (.slice (some a) 0 c) [] := ⟨some a, c, rfl, by simp, hc, (fun h => by cases h), fun h => absurd rfl h⟩

/-- A block that is known whole is read as a slice. -/
theorem seq_block {b : Nat} {cs : Array Value} {t : TypeId} {fr : Nat × Nat} (hb : w.heap[b]? = some (.cells cs t fr)) (xs : List Int) (lo n c : Nat) (hl : xs.length = n) (hnc : n ≤ c) (h63 : c ≤ 9223372036854775807) (hcs : ∀ i, i < n → cs[lo + i]? = some (.int k (xs.getD i 0))) :
    SeqAt k w (.slice (some ⟨b, lo, none⟩) n c) xs := by
  subst hl
  refine ⟨_, c, rfl, hnc, h63, (fun h => by cases h), fun _ => ⟨b, lo, rfl, fun i hi => ?_⟩⟩
  simp [World.cell?, hb]
  exact hcs i hi

theorem seq_new (w : World) (x : Int) (t : TypeId) : SeqAt k (w.alloc (.cells #[.int k x] t)) (.slice (some ⟨w.heap.size, 0, none⟩) 1 1) [x] :=
  seq_block (heap_alloc_new w _) [x] 0 1 1 rfl (by decide) (by decide) fun i hi => by
    obtain rfl : i = 0 := by omega
    rfl

/-- A part of a slice. -/
theorem SeqAt.sub {b off n cap lo hi c : Nat} (h : SeqAt k w (.slice (some ⟨b, off, none⟩) n cap) xs) (h1 : lo ≤ hi) (h2 : hi ≤ n) (h3 : hi - lo ≤ c) (h4 : c ≤ 9223372036854775807) : SeqAt k w (.slice (some ⟨b, off + lo, none⟩) (hi - lo) c) ((xs.drop lo).take (hi - lo)) := by
  obtain ⟨a, cap', hv, _, _, _, hc⟩ := h
  simp only [Value.slice.injEq] at hv
  obtain ⟨ha, hn, _⟩ := hv
  have hlen : ((xs.drop lo).take (hi - lo)).length = hi - lo := by simp; omega
  refine ⟨_, c, by rw [hlen], by omega, h4, (fun h => by cases h), fun hne => ⟨b, off + lo, rfl, fun i hi' => ?_⟩⟩
  have hi2 : lo + i < xs.length := by omega
  obtain ⟨b', off', ha', hc'⟩ := hc (by rintro rfl; simp at hi2)
  rw [← ha] at ha'
  simp at ha'
  obtain ⟨rfl, rfl⟩ := ha'
  have := hc' (lo + i) hi2
  rw [show off + (lo + i) = off + lo + i by omega] at this
  rw [this]
  have h5 : i < hi - lo := by omega
  simp [h5]

theorem SeqAt.front {a : Option Addr} {n cap m : Nat} (h : SeqAt k w (.slice a n cap) xs) (h2 : m ≤ n) : SeqAt k w (.slice a m cap) (xs.take m) := by
  obtain ⟨a', cap', hv, h3, h4, h5, hc⟩ := h
  simp only [Value.slice.injEq] at hv
  obtain ⟨rfl, hn, rfl⟩ := hv
  have hlen : (xs.take m).length = m := by simp; omega
  refine ⟨a, cap, by rw [hlen], by omega, h4, h5, fun hne => ?_⟩
  obtain ⟨b, off, ha, hcell⟩ := hc (by rintro rfl; simp at hne)
  refine ⟨b, off, ha, fun i hi => ?_⟩
  have hi2 : i < m := by omega
  rw [hcell i (by omega)]
  simp [hi2]

theorem SeqAt.back {b off n cap lo : Nat} (h : SeqAt k w (.slice (some ⟨b, off, none⟩) n cap) xs) (h2 : lo ≤ n) : SeqAt k w (.slice (some ⟨b, off + lo, none⟩) (n - lo) (cap - lo)) (xs.drop lo) := by
  obtain ⟨a', cap', hv, h3, h4, h5, hc⟩ := h
  simp only [Value.slice.injEq] at hv
  obtain ⟨rfl, hn, rfl⟩ := hv
  have hlen : (xs.drop lo).length = n - lo := by simp; omega
  refine ⟨_, cap - lo, by rw [hlen], by omega, by omega, (fun h => by cases h), fun hne => ?_⟩
  obtain ⟨b', off', ha, hcell⟩ := hc (by rintro rfl; simp at hne)
  simp at ha
  obtain ⟨rfl, rfl⟩ := ha
  refine ⟨b, off + lo, rfl, fun i hi => ?_⟩
  have := hcell (lo + i) (by omega)
  rw [show off + lo + i = off + (lo + i) by omega, this]
  simp

theorem own_none : OwnS e k w base (.slice none 0 0) [] := ⟨by simp, .inl ⟨rfl, rfl⟩⟩

theorem OwnS.seq (h : OwnS e k w base v xs) : SeqAt k w v xs := by
  rcases h.2 with ⟨hv, hn⟩ | ⟨g, cap, cur, rfl, hb, hg, hn, hm, hs, ht⟩
  · exact ⟨none, 0, by rw [hv, hn], by omega, by omega, fun _ => rfl, fun hne => absurd (List.length_eq_zero_iff.1 hn) hne⟩
  · refine ⟨_, cap, rfl, hn, by unfold maxLen at hm; omega, (fun h => by cases h), fun _ => ⟨g, 0, rfl, fun i hi => ?_⟩⟩
    rw [Nat.zero_add, World.ownsRow.cellAt h i (by omega)]
    simp [hi]

theorem OwnS.shape (h : OwnS e k w base v xs) : ∃ p cap, v = .slice p xs.length cap ∧ xs.length ≤ cap ∧ cap ≤ 9223372036854775807 := h.seq.shape

theorem ownsRow_later {size n : Nat} {us : List Value} (h : w.ownsRow base e size v n us) (hU : Up w w') : w'.ownsRow base e size v n us := by
  refine ⟨h.1, ?_⟩
  rcases h.2 with hn | ⟨g, cap, cur, rfl, hb, hgg, rest⟩
  · exact .inl hn
  · refine .inr ⟨g, cap, cur, rfl, hb, ?_, rest⟩
    rw [hU.block (Array.getElem?_eq_some_iff.1 hgg).1]
    exact hgg

theorem OwnS.up (h : OwnS e k w base v xs) (hU : Up w w') : OwnS e k w' base v xs := ownsRow_later h hU

theorem OwnS.mono {base' : Nat} (h : OwnS e k w base v xs) (hb : base' ≤ base) : OwnS e k w base' v xs := by
  refine ⟨h.1, ?_⟩
  rcases h.2 with hn | ⟨g, cap, cur, rfl, hb2, rest⟩
  · exact .inl hn
  · exact .inr ⟨g, cap, cur, rfl, by omega, rest⟩

theorem OwnS.block (h : OwnS e k w base v xs) (j : Nat) (hj : v.ownBlock = some j) : base ≤ j := by
  rcases h.2 with ⟨hv, _⟩ | ⟨g, cap, cur, rfl, hb, _⟩
  · rw [hv] at hj; cases hj
  · simp [Value.ownBlock] at hj; omega

theorem OwnS.grown {row : Option Nat} (h : OwnS e k w base v xs) (hg : w.grownBy w' row) (hne : v.ownBlock = none ∨ v.ownBlock ≠ row) : OwnS e k w' base v xs :=
  World.ownsRow.kept h hg hne

/-- What was there when the call began is there behind an append to the call's own. -/
theorem Up.own {w0 : World} (hU : Up w0 w) (h : OwnS e k w base v xs) (hg : w.grownBy w' v.ownBlock) (hb : w0.heap.size ≤ base) : Up w0 w' :=
  Below.grown hU hg hU.size fun j hj => Nat.le_trans hb (h.block j hj)

theorem below_own (h : OwnS e k w base v xs) (hg : w.grownBy w' v.ownBlock) (hb : base ≤ w.heap.size) : Below base w w' :=
  Below.grown (Below.refl base w) hg hb fun j hj => h.block j hj

theorem SeqAt.below {B : Nat} (h : SeqAt k w v xs) (hb : Below B w w') (ha : ∀ b off n c, v = .slice (some ⟨b, off, none⟩) n c → b < B) : SeqAt k w' v xs := by
  obtain ⟨a, cap, h2, hle, hmx, hn, h3⟩ := h
  refine ⟨a, cap, h2, hle, hmx, hn, fun hne => ?_⟩
  obtain ⟨b, off, rfl, hc⟩ := h3 hne
  exact ⟨b, off, rfl, fun i hi => by rw [hb.cell (show (⟨b, off + i, none⟩ : Addr).block < B from ha _ _ _ _ h2)]; exact hc i hi⟩

theorem SeqAt.inside {b off n c : Nat} (h : SeqAt k w (.slice (some ⟨b, off, none⟩) n c) xs) (hne : xs ≠ []) : b < w.heap.size := by
  obtain ⟨a, cap, h2, _, _, _, h3⟩ := h
  obtain ⟨b', off', ha, hc⟩ := h3 hne
  simp only [Value.slice.injEq] at h2
  rw [ha] at h2
  simp at h2
  have := hc 0 (List.length_pos_iff.2 hne)
  rw [← h2.1.1] at this
  exact cell_in this

end

/-- append(v, u...) onto the call's own: at the operation of a walk. -/
theorem wp_app {P : Program} {e t : TypeId} {k : IntKind} {bytes : Nat} (hI : (P.info? e).map (fun i => (i.zero, i.size, i.bytes)) = some (some (.int k 0), 1, bytes)) (ht : P.underlying t = some (.slice e)) (hby : bytes ≤ 8)
    {ops : Array Oper} {rest : List Oper} {o : Oper} {a : Act} {w : World} {Q : Exit → Act → World → Prop} (hgd : o.guard = none) (s x : Operand)
    (ho : o.op = .call { callee := .builtin .append, args := #[s, x], argTypes := #[t, t] })
    (base : Nat) {v u : Value} {xs ys : List Int} (hs : a.eval s = v) (hx : a.eval x = u) (hown : OwnS e k w base v xs) (hsrc : SeqAt k w u ys) (hroom : xs.length + ys.length ≤ 17592186044416) (hbase : base ≤ w.heap.size)
    (h : ∀ v' w', OwnS e k w' base v' (xs ++ ys) → w.grownBy w' v.ownBlock → wpList P ops Q rest (a.put o.dst v') w') : wpList P ops Q (o :: rest) a w := by
  obtain ⟨i0, hi, hz0, hz1, hz2⟩ := info_parts hI
  obtain ⟨ad, cap, rfl, _, _, hcap, hc⟩ := hsrc
  have hown' : w.ownsRow base e 1 v xs.length (xs.map (Value.int k)) := hown
  by_cases hne : ys = []
  · subst hne
    cases ad with
    | none =>
      have hcap := hcap rfl
      subst hcap
      refine wpList_append_own_none hgd s x t ho base e i0 1 ht hi v xs.length _ hs hown' hx ?_
      have := h v w (by rw [List.append_nil]; exact hown) (World.grownBy.refl _ _)
      exact this
    | some ad =>
      refine wpList_append_own w hgd s x t ho base e i0 (.int k 0) 1 bytes ht hi hz0 hz1 hz2 rfl (by decide) v xs.length _ hs hown' ad 0 cap [] hx rfl (fun j u hj => by simp at hj) (fun u hu => by cases hu) (by unfold maxLen; omega) (by
        have := Nat.mul_le_mul (show xs.length + 0 ≤ 17592186044416 by simp at hroom; omega) hby
        omega) hbase fun v' w' h1 h2 _ => h v' w' (by
          unfold OwnS
          rw [List.append_nil]
          simpa using h1) h2
  · obtain ⟨b, off, rfl, hcell⟩ := hc hne
    refine wpList_append_own w hgd s x t ho base e i0 (.int k 0) 1 bytes ht hi hz0 hz1 hz2 rfl (by decide) v xs.length _ hs hown' ⟨b, off, none⟩ ys.length cap (ys.map (Value.int k)) hx (by simp) (fun j u hj => by
        simp only [List.getElem?_map, Option.map_eq_some_iff] at hj
        obtain ⟨y, hy, rfl⟩ := hj
        have hj2 : j < ys.length := (List.getElem?_eq_some_iff.1 hy).1
        have := hcell j hj2
        rw [Addr.add_lit, this]
        simp [hy]) (ints_oneCell _ _) (by unfold maxLen; omega) (by
        have := Nat.mul_le_mul hroom hby
        omega) hbase fun v' w' h1 h2 _ => h v' w' (by
          unfold OwnS
          rw [List.length_append, List.map_append]
          exact h1) h2

end Go.Sp
namespace Go.Sp
open Go.RowKit

/-- A block that is known whole. -/
def Blk (w : World) (g : Nat) (t : TypeId) (cs : Array Value) : Prop := w.heap[g]? = some (.cells cs t (0, 0))

section
variable {w w' : World} {g : Nat} {t : TypeId} {cs : Array Value}
theorem Blk.lt (h : Blk w g t cs) : g < w.heap.size := (Array.getElem?_eq_some_iff.1 h).1
theorem Blk.read (h : Blk w g t cs) (i : Nat) : w.cell? ⟨g, i, none⟩ = cs[i]? := by
  have h1 : w.heap[g]? = some (.cells cs t (0, 0)) := h
  simp [World.cell?, h1]
theorem Blk.val (h : Blk w g t cs) {i : Nat} {v : Value} (hv : cs[i]? = some v) : w.cell? ⟨g, i, none⟩ = some v := by rw [h.read i]; exact hv
theorem Blk.thawed (h : Blk w g t cs) (i : Nat) : w.frozen? ⟨g, i, none⟩ = false := by
  have h1 : w.heap[g]? = some (.cells cs t (0, 0)) := h
  simp [World.frozen?, h1]
theorem Blk.up (h : Blk w g t cs) (hU : Up w w') : Blk w' g t cs := (hU.block h.lt).trans h
theorem Blk.alloc (h : Blk w g t cs) (o : Obj) : Blk (w.alloc o) g t cs := h.up ((Up.refl w).alloc o)
theorem Blk.new {w : World} {g : Nat} {t : TypeId} {cs cs' : Array Value} (hg : w.heap.size = g) (hc : cs = cs') : Blk (w.alloc (.cells cs t)) g t cs' := by
  subst hg hc
  exact heap_alloc_new w _
theorem Blk.grown {row : Option Nat} (h : Blk w g t cs) (hg : w.grownBy w' row) (hr : some g ≠ row) : Blk w' g t cs := (hg.block g h.lt hr).trans h
theorem Blk.below {B : Nat} (h : Blk w g t cs) (hb : Below B w w') (hg : g < B) : Blk w' g t cs := (hb.block g hg).trans h
theorem Blk.apart (h : Blk w g t cs) {a : Addr} (ha : g ≠ a.block) (v : Value) : Blk (w.setCell a v) g t cs := (Below.heap_setCell w a v g ha).trans h
theorem Blk.wrote (h : Blk w g t cs) (i : Nat) (v : Value) : Blk (w.setCell ⟨g, i, none⟩ v) g t (cs.setIfInBounds i v) := by
  have h1 : w.heap[g]? = some (.cells cs t (0, 0)) := h
  unfold Blk
  simp [World.setCell, Array.getElem?_modify, h1]
theorem Blk.row (h : Blk w g t cs) (cs' : Array Value) : Blk (w.setRow g cs') g t cs' := setRow_heap w g cs cs' t (0, 0) h
theorem Blk.rowApart (h : Blk w g t cs) {k : Nat} (hk : g ≠ k) (cs' : Array Value) : Blk (w.setRow k cs') g t cs := (setRow_other w k g cs' hk).trans h
theorem Up.setRow {w0 : World} (h : Up w0 w) (hg : w0.heap.size ≤ g) (cs' : Array Value) : Up w0 (w.setRow g cs') := below_setRow h hg cs'
end

/-- A row of numbers. -/
def arrK (k : IntKind) (f : Nat → Int) (n : Nat) : Array Value := (Array.range n).map fun j => .int k (f j)

section
variable {k : IntKind} {f g : Nat → Int} {n : Nat}
theorem arrK_size : (arrK k f n).size = n := by simp [arrK]
theorem arrK_get {j : Nat} (hj : j < n) : (arrK k f n)[j]? = some (.int k (f j)) := by simp [arrK, hj]
theorem arrK_one : (arrK k f n).all (·.oneCell') = true := by
  rw [Array.all_eq_true]
  intro i h
  simp [arrK, Value.oneCell']
theorem arrK_congr (h : ∀ j, j < n → f j = g j) : arrK k f n = arrK k g n := by
  apply Array.ext
  · simp [arrK]
  · intro i h1 h2
    simp [arrK] at h1 ⊢
    exact h i h1
theorem arrK_set {i : Nat} (x : Int) : (arrK k f n).setIfInBounds i (.int k x) = arrK k (fun j => if j = i then x else f j) n := by
  apply Array.ext_getElem?
  intro j
  rw [Array.getElem?_setIfInBounds, arrK_size]
  by_cases hj : j < n
  · rw [arrK_get hj, arrK_get hj]
    by_cases h : i = j
    · subst h
      simp [hj]
    · have h2 : ¬ j = i := fun e => h e.symm
      simp [h, h2]
  · have h1 : (arrK k f n)[j]? = none := by simp [arrK, hj]
    have h2 : (arrK k (fun j => if j = i then x else f j) n)[j]? = none := by simp [arrK, hj]
    rw [h1, h2]
    split
    · split
      · omega
      · rfl
    · rfl
end

/-- Filled as far as i. -/
def pfill (f : Nat → Int) (i : Nat) : Nat → Int := fun j => if j < i then f j else 0
theorem pfill_zero (k : IntKind) (f : Nat → Int) (n : Nat) : arrK k (fun _ => 0) n = arrK k (pfill f 0) n := arrK_congr fun j _ => by simp [pfill]
theorem pfill_all (k : IntKind) (f : Nat → Int) (n : Nat) : arrK k (pfill f n) n = arrK k f n := arrK_congr fun j hj => by simp [pfill, hj]
theorem pfill_put (k : IntKind) (f : Nat → Int) (i n : Nat) : (arrK k (pfill f i) n).setIfInBounds i (.int k (f i)) = arrK k (pfill f (i + 1)) n := by
  rw [arrK_set]
  refine arrK_congr fun t _ => ?_
  unfold pfill
  by_cases h : t = i
  · subst h
    simp
  · have e1 : (t < i + 1) ↔ (t < i) := by omega
    simp [h, e1]
theorem pfill_at {k : IntKind} {f : Nat → Int} {i n : Nat} (hi : i < n) : (arrK k (pfill f i) n)[i]? = some (.int k 0) := by
  rw [arrK_get hi, pfill, if_neg (by omega)]

/-- How long a slice is. -/
def lenOf : Value → Nat
  | .slice _ n _ => n
  | _ => 0

@[simp] theorem lenOf_slice (a : Option Addr) (n c : Nat) : lenOf (.slice a n c) = n := rfl
theorem Blk.own {w : World} {g base : Nat} {e : TypeId} {k : IntKind} {f : Nat → Int} {n : Nat} (h : Blk w g e (arrK k f n)) (hb : base ≤ g) (hn : n ≤ 9223372036854775807) : OwnS e k w base (.slice (some ⟨g, 0, none⟩) n n) ((List.range n).map f) := by
  refine ⟨by simp, .inr ⟨g, n, _, by simp, hb, h, by simp, by unfold maxLen; omega, by simp [arrK], ?_⟩⟩
  rw [List.take_of_length_le (by simp [arrK])]
  simp [arrK]

theorem own_empty {w : World} {g base : Nat} {e : TypeId} {k : IntKind} (h : Blk w g e #[]) (hb : base ≤ g) : OwnS e k w base (.slice (some ⟨g, 0, none⟩) 0 0) [] :=
  ⟨by simp, .inr ⟨g, 0, _, rfl, hb, h, Nat.le_refl _, Nat.zero_le _, rfl, rfl⟩⟩

/-- A block of numbers read as a slice. -/
theorem Blk.seq {w : World} {b : Nat} {t : TypeId} {k : IntKind} {f : Nat → Int} {m : Nat} (h : Blk w b t (arrK k f m)) (lo n c : Nat) (h1 : lo + n ≤ m) (hnc : n ≤ c) (h63 : c ≤ 9223372036854775807) :
    SeqAt k w (.slice (some ⟨b, lo, none⟩) n c) ((List.range n).map fun i => f (lo + i)) :=
  seq_block h _ lo n c (by simp) hnc h63 fun i hi => by
    rw [arrK_get (by omega)]
    simp [hi]
end Go.Sp
