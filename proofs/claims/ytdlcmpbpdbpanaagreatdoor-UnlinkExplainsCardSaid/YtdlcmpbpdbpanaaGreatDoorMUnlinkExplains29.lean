/- Restrictive signatures: unblinding, in the program and in the reference. Encodings of items, transcripts, challenges: plain lists of bytes. No program in sight. -/
import Derived.Test.YtdlcmpbpdbpanaaGreatDoorMUnlinkExplains28
import Derived.Test.YtdlcmpbpdbpanaaGreatDoorMUnlinkExplains13
namespace Go.Proofs.YtdlcmpbpdbpanaaGreatDoor
open Go.RowKit Go.Sp
set_option maxHeartbeats 2000000
set_option maxRecDepth 20000

/-- A signature as a value. -/
abbrev sgn (a b c d : Int) : Value := .agg #[.int .i64 a, .int .i64 b, .int .i64 c, .int .i64 d]
/-- The error of unblinding. -/
def unE (P Q G A B C k1 k2 k3 m z x y c r s u v : Int) : Int := if kvB P Q G A B C k1 k2 k3 = true then (if facB Q s u v = true then (if cvB P Q G A B C k1 k2 k3 m z x y c r = true then 0 else 11) else 2) else 1

theorem up_eq {a b : World} (h : a = b) : Up a b := h ▸ Up.refl _
theorem blk_four {w : World} {b : Nat} {t : TypeId} {p q e d : Value} (h : Blk w b t #[p, q, e, d]) (x y z u : Value) : Blk ((((w.setCell ⟨b, 0, none⟩ x).setCell ⟨b, 1, none⟩ y).setCell ⟨b, 2, none⟩ z).setCell ⟨b, 3, none⟩ u) b t #[x, y, z, u] :=
  (((h.wrote 0 x).wrote 1 y).wrote 2 z).wrote 3 u

/-- The boxes of Unblind. -/
def UnbAt (w : World) (o : Nat) (P Q G A B C k1 k2 k3 m z x y c r sz sa sb sr s u v : Int) : Prop :=
  ViewsAt w o P Q G A B C k1 k2 k3 m z x y c r ∧ Blk w (o + 3) 33 #[.int .i64 sz, .int .i64 sa, .int .i64 sb, .int .i64 sr] ∧ GrpAt w (o + 4) s u v
theorem UnbAt.up {w w' : World} {o : Nat} {P Q G A B C k1 k2 k3 m z x y c r sz sa sb sr s u v : Int} (h : UnbAt w o P Q G A B C k1 k2 k3 m z x y c r sz sa sb sr s u v) (hU : Up w w') : UnbAt w' o P Q G A B C k1 k2 k3 m z x y c r sz sa sb sr s u v := ⟨h.1.up hU, h.2.1.up hU, h.2.2.up hU⟩
theorem unb_new {w : World} {o : Nat} {P Q G A B C k1 k2 k3 m z x y c r sz sa sb sr s u v : Int} (ho : w.heap.size = o) :
    UnbAt (((((w.alloc (.cells #[.int .i64 P, .int .i64 Q, .int .i64 G, .int .i64 A, .int .i64 B, .int .i64 C] 25)).alloc (.cells #[.int .i64 k1, .int .i64 k2, .int .i64 k3] 27)).alloc (.cells #[.int .i64 m, .int .i64 z, .int .i64 x, .int .i64 y, .int .i64 c, .int .i64 r] 29)).alloc (.cells #[.int .i64 sz, .int .i64 sa, .int .i64 sb, .int .i64 sr] 33)).alloc (.cells #[.int .i64 s, .int .i64 u, .int .i64 v] 39)) o P Q G A B C k1 k2 k3 m z x y c r sz sa sb sr s u v :=
  ⟨(views_new ho).up (((Up.refl _).alloc _).alloc _), (Blk.new (by simp [ho]) rfl).alloc _, nums_three (by simp [ho])⟩
/-- The boxes of Unblind, and its result. -/
def ResAt (w : World) (o : Nat) (P Q G A B C k1 k2 k3 m z x y c r sz sa sb sr s u v : Int) : Prop := UnbAt w o P Q G A B C k1 k2 k3 m z x y c r sz sa sb sr s u v ∧ Blk w (o + 5) 33 #[.int .i64 0, .int .i64 0, .int .i64 0, .int .i64 0]
theorem ResAt.up {w w' : World} {o : Nat} {P Q G A B C k1 k2 k3 m z x y c r sz sa sb sr s u v : Int} (h : ResAt w o P Q G A B C k1 k2 k3 m z x y c r sz sa sb sr s u v) (hU : Up w w') : ResAt w' o P Q G A B C k1 k2 k3 m z x y c r sz sa sb sr s u v := ⟨h.1.up hU, h.2.up hU⟩

theorem keepC9 {w0 w w' : World} {o : Nat} {P Q G A B C r u v : Int} (hU : Up w w') (h : w.cell? ⟨o, 0, none⟩ = some (.int .i64 P) ∧ w.cell? ⟨o, 1, none⟩ = some (.int .i64 Q) ∧ w.cell? ⟨o, 2, none⟩ = some (.int .i64 G) ∧ w.cell? ⟨o, 3, none⟩ = some (.int .i64 A) ∧ w.cell? ⟨o, 4, none⟩ = some (.int .i64 B) ∧ w.cell? ⟨o, 5, none⟩ = some (.int .i64 C) ∧ w.cell? ⟨o + 2, 5, none⟩ = some (.int .i64 r) ∧ w.cell? ⟨o + 4, 1, none⟩ = some (.int .i64 u) ∧ w.cell? ⟨o + 4, 2, none⟩ = some (.int .i64 v) ∧ Hid (Up w0 w)) :
    w'.cell? ⟨o, 0, none⟩ = some (.int .i64 P) ∧ w'.cell? ⟨o, 1, none⟩ = some (.int .i64 Q) ∧ w'.cell? ⟨o, 2, none⟩ = some (.int .i64 G) ∧ w'.cell? ⟨o, 3, none⟩ = some (.int .i64 A) ∧ w'.cell? ⟨o, 4, none⟩ = some (.int .i64 B) ∧ w'.cell? ⟨o, 5, none⟩ = some (.int .i64 C) ∧ w'.cell? ⟨o + 2, 5, none⟩ = some (.int .i64 r) ∧ w'.cell? ⟨o + 4, 1, none⟩ = some (.int .i64 u) ∧ w'.cell? ⟨o + 4, 2, none⟩ = some (.int .i64 v) ∧ Hid (Up w0 w') :=
  ⟨cellUp hU h.1, cellUp hU h.2.1, cellUp hU h.2.2.1, cellUp hU h.2.2.2.1, cellUp hU h.2.2.2.2.1, cellUp hU h.2.2.2.2.2.1, cellUp hU h.2.2.2.2.2.2.1, cellUp hU h.2.2.2.2.2.2.2.1, cellUp hU h.2.2.2.2.2.2.2.2.1, hid (h.2.2.2.2.2.2.2.2.2.out.trans hU)⟩
theorem keepC9Store {w0 w w' : World} {o : Nat} {P Q G A B C r u v : Int} {t : Value} (hb : w0.heap.size ≤ o) (hw : w' = w.setCell ⟨o + 3, 3, none⟩ t) (h : w.cell? ⟨o, 0, none⟩ = some (.int .i64 P) ∧ w.cell? ⟨o, 1, none⟩ = some (.int .i64 Q) ∧ w.cell? ⟨o, 2, none⟩ = some (.int .i64 G) ∧ w.cell? ⟨o, 3, none⟩ = some (.int .i64 A) ∧ w.cell? ⟨o, 4, none⟩ = some (.int .i64 B) ∧ w.cell? ⟨o, 5, none⟩ = some (.int .i64 C) ∧ w.cell? ⟨o + 2, 5, none⟩ = some (.int .i64 r) ∧ w.cell? ⟨o + 4, 1, none⟩ = some (.int .i64 u) ∧ w.cell? ⟨o + 4, 2, none⟩ = some (.int .i64 v) ∧ Hid (Up w0 w)) :
    w'.cell? ⟨o, 0, none⟩ = some (.int .i64 P) ∧ w'.cell? ⟨o, 1, none⟩ = some (.int .i64 Q) ∧ w'.cell? ⟨o, 2, none⟩ = some (.int .i64 G) ∧ w'.cell? ⟨o, 3, none⟩ = some (.int .i64 A) ∧ w'.cell? ⟨o, 4, none⟩ = some (.int .i64 B) ∧ w'.cell? ⟨o, 5, none⟩ = some (.int .i64 C) ∧ w'.cell? ⟨o + 2, 5, none⟩ = some (.int .i64 r) ∧ w'.cell? ⟨o + 4, 1, none⟩ = some (.int .i64 u) ∧ w'.cell? ⟨o + 4, 2, none⟩ = some (.int .i64 v) ∧ Hid (Up w0 w') := by
  subst hw
  have key : ∀ k i, k ≠ o + 3 → (w.setCell ⟨o + 3, 3, none⟩ t).cell? ⟨k, i, none⟩ = w.cell? ⟨k, i, none⟩ := fun k i hk => by
    rw [World.cell?_setCell_other]; exact fun h => hk (congrArg Addr.block h).symm
  exact ⟨(key _ _ (by omega)).trans h.1, (key _ _ (by omega)).trans h.2.1, (key _ _ (by omega)).trans h.2.2.1, (key _ _ (by omega)).trans h.2.2.2.1, (key _ _ (by omega)).trans h.2.2.2.2.1, (key _ _ (by omega)).trans h.2.2.2.2.2.1, (key _ _ (by omega)).trans h.2.2.2.2.2.2.1, (key _ _ (by omega)).trans h.2.2.2.2.2.2.2.1, (key _ _ (by omega)).trans h.2.2.2.2.2.2.2.2.1, hid (h.2.2.2.2.2.2.2.2.2.out.setCell (show w0.heap.size ≤ o + 3 by omega) _)⟩
theorem up9 {w1 w : World} {a b c d e f g h i : Prop} (hs : a ∧ b ∧ c ∧ d ∧ e ∧ f ∧ g ∧ h ∧ i ∧ Hid (Up w1 w)) : Up w1 w := hs.2.2.2.2.2.2.2.2.2.out

end Go.Proofs.YtdlcmpbpdbpanaaGreatDoor
namespace Go.Sp

def encInt (n : Int) : List Int := 1 :: beL 8 (IntKind.u64.wrap n)
def encBytes (xs : List Int) : List Int := 2 :: (beL 4 xs.length ++ xs)
def encList (es : List (List Int)) : List Int := 3 :: (beL 4 es.length ++ es.flatten)

theorem encInt_length (n : Int) : (encInt n).length = 9 := by rw [encInt, List.length_cons, beL_length]
theorem encBytes_length (xs : List Int) : (encBytes xs).length = xs.length + 5 := by rw [encBytes, List.length_cons, List.length_append, beL_length]; omega
theorem encList_length (es : List (List Int)) : (encList es).length = es.flatten.length + 5 := by rw [encList, List.length_cons, List.length_append, beL_length]; omega

/-- The frame that a transcript hashes. -/
def frameE (h : Nat → Int) (label : List Int) (more : List (List Int)) : List Int := encList (encBytes (hList h) :: encBytes label :: more)

theorem frameE_length (h : Nat → Int) (label : List Int) (more : List (List Int)) : (frameE h label more).length = 47 + label.length + more.flatten.length := by
  rw [frameE, encList_length, List.flatten_cons, List.flatten_cons, List.length_append, List.length_append, encBytes_length, encBytes_length, hList_length]; omega

def tagTr : List Int := [115, 112, 101, 99, 105, 101, 47, 116, 114, 97, 110, 115, 99, 114, 105, 112, 116]
def tagAbsorb : List Int := [115, 112, 101, 99, 105, 101, 47, 97, 98, 115, 111, 114, 98]
def tagChal : List Int := [115, 112, 101, 99, 105, 101, 47, 99, 104, 97, 108, 108, 101, 110, 103, 101]
def tagCoin : List Int := [115, 112, 101, 99, 105, 101, 47, 99, 111, 105, 110]

def trNew (label : List Int) : Nat → Int := tagB tagTr label
def absB (h : Nat → Int) (label item : List Int) : Nat → Int := tagB tagAbsorb (frameE h label [item])
def chalN (h : Nat → Int) (label : List Int) (q : Int) : Int := numH (tagB tagChal (frameE h label [])) q

def lbSig : List Int := [115, 105, 103, 110, 97, 116, 117, 114, 101]
def lbGroup : List Int := [103, 114, 111, 117, 112]
def lbKey : List Int := [107, 101, 121]
def lbComm : List Int := [99, 111, 109, 109, 105, 116, 109, 101, 110, 116]
def lbMsg : List Int := [109, 101, 115, 115, 97, 103, 101]
def lbChal : List Int := [99, 104, 97, 108, 108, 101, 110, 103, 101]

def encInts (l : List Int) : List Int := encList (l.map encInt)

/-- The challenge of a signature. -/
def sigC (P Q G r y : Int) (m : List Int) : Int :=
  chalN (absB (absB (absB (absB (trNew lbSig) lbGroup (encInts [P, Q, G])) lbKey (encInts [y])) lbComm (encInts [r])) lbMsg (encBytes (hList (shaB m)))) lbChal Q

/-- The challenge of a coin. -/
def coinC (P Q G A B C p : Int) (root : Nat → Int) (z a b : Int) : Int :=
  numH (tagB tagCoin (encList ([P, Q, G, A, B, C, p].map encInt ++ encBytes (hList root) :: [z, a, b].map encInt))) Q

theorem numH_range (h : Nat → Int) {m : Int} (hm : 0 < m) : 0 ≤ numH h m ∧ numH h m < m := numB_range hm 16
theorem sigC_range (P G r y : Int) (m : List Int) {Q : Int} (hQ : 0 < Q) : 0 ≤ sigC P Q G r y m ∧ sigC P Q G r y m < Q := numH_range _ hQ
theorem coinC_range (P G A B C p : Int) (root : Nat → Int) (z a b : Int) {Q : Int} (hQ : 0 < Q) : 0 ≤ coinC P Q G A B C p root z a b ∧ coinC P Q G A B C p root z a b < Q := numH_range _ hQ

theorem beL_bytes (n : Nat) (x : Int) : ∀ y ∈ beL n x, 0 ≤ y ∧ y ≤ 255 := by
  intro y hy
  simp only [beL, List.mem_map] at hy
  obtain ⟨i, _, rfl⟩ := hy
  have := Int.emod_lt_of_pos (x / 2 ^ (8 * (n - 1 - i))) (show (0 : Int) < 256 by decide)
  exact ⟨Int.emod_nonneg _ (by decide), by omega⟩
theorem encInt_byt (n : Int) : ∀ y ∈ encInt n, 0 ≤ y ∧ y ≤ 255 := by
  intro y hy
  simp only [encInt, List.mem_cons] at hy
  rcases hy with rfl | hy
  · omega
  · exact beL_bytes _ _ y hy
theorem encBytes_byt {xs : List Int} (h : ∀ y ∈ xs, 0 ≤ y ∧ y ≤ 255) : ∀ y ∈ encBytes xs, 0 ≤ y ∧ y ≤ 255 := by
  intro y hy
  simp only [encBytes, List.mem_cons, List.mem_append] at hy
  rcases hy with rfl | hy | hy
  · omega
  · exact beL_bytes _ _ y hy
  · exact h y hy
theorem encList_byt {es : List (List Int)} (h : ∀ e ∈ es, ∀ y ∈ e, 0 ≤ y ∧ y ≤ 255) : ∀ y ∈ encList es, 0 ≤ y ∧ y ≤ 255 := by
  intro y hy
  simp only [encList, List.mem_cons, List.mem_append, List.mem_flatten] at hy
  rcases hy with rfl | hy | ⟨e, he, hy⟩
  · omega
  · exact beL_bytes _ _ y hy
  · exact h e he y hy
theorem hList_bytes {h : Nat → Int} (hB : Byt h) : ∀ y ∈ hList h, 0 ≤ y ∧ y ≤ 255 := by
  intro y hy
  simp only [hList, List.mem_map] at hy
  obtain ⟨i, _, rfl⟩ := hy
  exact hB i

/-- The items of a coin's challenge. -/
def coinL (P Q G A B C p : Int) (root : Nat → Int) (z a b : Int) : List (List Int) := [P, Q, G, A, B, C, p].map encInt ++ encBytes (hList root) :: [z, a, b].map encInt
theorem coinL_flat (P Q G A B C p : Int) (root : Nat → Int) (z a b : Int) : (coinL P Q G A B C p root z a b).flatten.length = 127 := by
  simp [coinL, encInt_length, encBytes_length, hList_length]
theorem coinL_byt {P Q G A B C p : Int} {root : Nat → Int} {z a b : Int} (hB : Byt root) : ∀ y ∈ encList (coinL P Q G A B C p root z a b), 0 ≤ y ∧ y ≤ 255 := by
  refine encList_byt fun e he => ?_
  simp only [coinL, List.map_cons, List.map_nil, List.mem_append, List.mem_cons, List.not_mem_nil, or_false] at he
  rcases he with (rfl | rfl | rfl | rfl | rfl | rfl | rfl) | rfl | rfl | rfl | rfl
  all_goals first | exact encInt_byt _ | exact encBytes_byt (hList_bytes hB)

end Go.Sp
