/- Encodings of items, transcripts, challenges: plain lists of bytes. No program in sight. The number of a digest: doublings, and products. No program in sight. -/
import Derived.Test.YtdlcmpbpdbpanaaDoorMRestrictChallenges13
namespace Go.Sp

def encInt (n : Int) : List Int := 1 :: beL 8 (IntKind.u64.wrap n)
def encBytes (xs : List Int) : List Int := 2 :: (beL 4 xs.length ++ xs)
def encList (es : List (List Int)) : List Int := 3 :: (beL 4 es.length ++ es.flatten)

theorem encInt_length (n : Int) : (encInt n).length = 9 := by rw [encInt, List.length_cons, beL_length]
theorem encBytes_length (xs : List Int) : (encBytes xs).length = xs.length + 5 := by rw [encBytes, List.length_cons, List.length_append, beL_length]; omega
theorem encList_length (es : List (List Int)) : (encList es).length = es.flatten.length + 5 := by rw [encList, List.length_cons, List.length_append, beL_length]; omega

/-- The frame that a transcript hashes. -/
def frameE (h : Nat → Int) (label : List Int) (more : List (List Int)) : List Int := encList (encBytes (hList h) :: encBytes label :: more)

theorem frameE_length (h : Nat → Int) (label : List Int) (more : List (List Int)) : (frameE h label more).length = 47 + label.length + more.flatten.length := by
  rw [frameE, encList_length, List.flatten_cons, List.flatten_cons, List.length_append, List.length_append, encBytes_length, encBytes_length, hList_length]; omega

def tagTr : List Int := [115, 112, 101, 99, 105, 101, 47, 116, 114, 97, 110, 115, 99, 114, 105, 112, 116]
def tagAbsorb : List Int := [115, 112, 101, 99, 105, 101, 47, 97, 98, 115, 111, 114, 98]
def tagChal : List Int := [115, 112, 101, 99, 105, 101, 47, 99, 104, 97, 108, 108, 101, 110, 103, 101]
def tagCoin : List Int := [115, 112, 101, 99, 105, 101, 47, 99, 111, 105, 110]

def trNew (label : List Int) : Nat → Int := tagB tagTr label
def absB (h : Nat → Int) (label item : List Int) : Nat → Int := tagB tagAbsorb (frameE h label [item])
def chalN (h : Nat → Int) (label : List Int) (q : Int) : Int := numH (tagB tagChal (frameE h label [])) q

def lbSig : List Int := [115, 105, 103, 110, 97, 116, 117, 114, 101]
def lbGroup : List Int := [103, 114, 111, 117, 112]
def lbKey : List Int := [107, 101, 121]
def lbComm : List Int := [99, 111, 109, 109, 105, 116, 109, 101, 110, 116]
def lbMsg : List Int := [109, 101, 115, 115, 97, 103, 101]
def lbChal : List Int := [99, 104, 97, 108, 108, 101, 110, 103, 101]

def encInts (l : List Int) : List Int := encList (l.map encInt)

/-- The challenge of a signature. -/
def sigC (P Q G r y : Int) (m : List Int) : Int :=
  chalN (absB (absB (absB (absB (trNew lbSig) lbGroup (encInts [P, Q, G])) lbKey (encInts [y])) lbComm (encInts [r])) lbMsg (encBytes (hList (shaB m)))) lbChal Q

/-- The challenge of a coin. -/
def coinC (P Q G A B C p : Int) (root : Nat → Int) (z a b : Int) : Int :=
  numH (tagB tagCoin (encList ([P, Q, G, A, B, C, p].map encInt ++ encBytes (hList root) :: [z, a, b].map encInt))) Q

theorem numH_range (h : Nat → Int) {m : Int} (hm : 0 < m) : 0 ≤ numH h m ∧ numH h m < m := numB_range hm 16
theorem sigC_range (P G r y : Int) (m : List Int) {Q : Int} (hQ : 0 < Q) : 0 ≤ sigC P Q G r y m ∧ sigC P Q G r y m < Q := numH_range _ hQ
theorem coinC_range (P G A B C p : Int) (root : Nat → Int) (z a b : Int) {Q : Int} (hQ : 0 < Q) : 0 ≤ coinC P Q G A B C p root z a b ∧ coinC P Q G A B C p root z a b < Q := numH_range _ hQ

theorem beL_bytes (n : Nat) (x : Int) : ∀ y ∈ beL n x, 0 ≤ y ∧ y ≤ 255 := by
  intro y hy
  simp only [beL, List.mem_map] at hy
  obtain ⟨i, _, rfl⟩ := hy
  have := Int.emod_lt_of_pos (x / 2 ^ (8 * (n - 1 - i))) (show (0 : Int) < 256 by decide)
  exact ⟨Int.emod_nonneg _ (by decide), by omega⟩
theorem encInt_byt (n : Int) : ∀ y ∈ encInt n, 0 ≤ y ∧ y ≤ 255 := by
  intro y hy
  simp only [encInt, List.mem_cons] at hy
  rcases hy with rfl | hy
  · omega
  · exact beL_bytes _ _ y hy
theorem encBytes_byt {xs : List Int} (h : ∀ y ∈ xs, 0 ≤ y ∧ y ≤ 255) : ∀ y ∈ encBytes xs, 0 ≤ y ∧ y ≤ 255 := by
  intro y hy
  simp only [encBytes, List.mem_cons, List.mem_append] at hy
  rcases hy with rfl | hy | hy
  · omega
  · exact beL_bytes _ _ y hy
  · exact h y hy
theorem encList_byt {es : List (List Int)} (h : ∀ e ∈ es, ∀ y ∈ e, 0 ≤ y ∧ y ≤ 255) : ∀ y ∈ encList es, 0 ≤ y ∧ y ≤ 255 := by
  intro y hy
  simp only [encList, List.mem_cons, List.mem_append, List.mem_flatten] at hy
  rcases hy with rfl | hy | ⟨e, he, hy⟩
  · omega
  · exact beL_bytes _ _ y hy
  · exact h e he y hy
theorem hList_bytes {h : Nat → Int} (hB : Byt h) : ∀ y ∈ hList h, 0 ≤ y ∧ y ≤ 255 := by
  intro y hy
  simp only [hList, List.mem_map] at hy
  obtain ⟨i, _, rfl⟩ := hy
  exact hB i

/-- The items of a coin's challenge. -/
def coinL (P Q G A B C p : Int) (root : Nat → Int) (z a b : Int) : List (List Int) := [P, Q, G, A, B, C, p].map encInt ++ encBytes (hList root) :: [z, a, b].map encInt
theorem coinL_flat (P Q G A B C p : Int) (root : Nat → Int) (z a b : Int) : (coinL P Q G A B C p root z a b).flatten.length = 127 := by
  simp [coinL, encInt_length, encBytes_length, hList_length]
theorem coinL_byt {P Q G A B C p : Int} {root : Nat → Int} {z a b : Int} (hB : Byt root) : ∀ y ∈ encList (coinL P Q G A B C p root z a b), 0 ≤ y ∧ y ≤ 255 := by
  refine encList_byt fun e he => ?_
  simp only [coinL, List.map_cons, List.map_nil, List.mem_append, List.mem_cons, List.not_mem_nil, or_false] at he
  rcases he with (rfl | rfl | rfl | rfl | rfl | rfl | rfl) | rfl | rfl | rfl | rfl
  all_goals first | exact encInt_byt _ | exact encBytes_byt (hList_bytes hB)

end Go.Sp
namespace Go.Sp

theorem dbl_zero {x m : Int} (h0 : 0 ≤ x) (h1 : x < m) : x * 2 ^ 0 % m = x := by
  rw [show x * 2 ^ 0 = x by simp]
  exact Int.emod_eq_of_lt h0 h1
theorem dbl_step (x m : Int) (j : Nat) : (x * 2 ^ j % m + x * 2 ^ j % m) % m = x * 2 ^ (j + 1) % m := by
  rw [← Int.add_emod, Int.pow_succ, ← Int.mul_assoc]
  congr 1
  omega
theorem num_step (x c m : Int) : (x * 2 ^ 8 % m + c % m) % m = (x * 256 + c) % m := by
  rw [← Int.add_emod]
  rfl
theorem num_ref (x c m : Int) : (x * (256 % m) % m + c) % m = (x * 256 + c) % m := by
  have h : x * (256 % m) % m = x * 256 % m := by rw [Int.mul_emod, Int.emod_emod_of_dvd _ (Int.dvd_refl m), ← Int.mul_emod]
  rw [h, Int.emod_add_emod]
end Go.Sp
