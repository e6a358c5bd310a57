/- Package digest: Tagged. Encodings of items, transcripts, challenges: plain lists of bytes. No program in sight. Items in memory, and their encodings. Over any program. Package encode: valid items; numbers. append onto the call's own, and where the new slice lies. Over any program. -/
import Derived.Test.YtdbhleinhpiohaaGreatDoorMB10
import Derived.Test.YtdbhleinhpiohaaGreatDoorMB8
import Derived.Test.YtdbhleinhpiohaaGreatDoorMB9
import Derived.Deep.RegionHeld3
import Derived.Maps.AppendAt
namespace Go.Proofs.YtdbhleinhpiohaaGreatDoor
open Go.RowKit Go.Sp
set_option maxHeartbeats 2000000
set_option maxRecDepth 20000

theorem hashV_seq {w : World} {g : Nat} {t : TypeId} {h : Nat → Int} (hb : Blk w g t (arrK .u8 h 32)) : SeqAt .u8 w (.slice (some ⟨g, 0, none⟩) 32 32) (hList h) := by
  have := hb.seq 0 32 32 (by omega) (by omega) (by omega)
  simpa [hList] using this

theorem hList_byt {h : Nat → Int} (hb : ∀ i, 0 ≤ h i ∧ h i ≤ 255) : ∀ x ∈ hList h, 0 ≤ x ∧ x ≤ 255 := by
  intro x hx
  simp only [hList, List.mem_map] at hx
  obtain ⟨i, _, rfl⟩ := hx
  exact hb i

theorem Tagged_any (s : ByteArray) (v : Value) (xs : List Int) (w : World) (hT : TabS w) (hs0 : 1 ≤ s.size) (hs1 : s.size ≤ 100) (hv : SeqAt .u8 w v xs) (hl : xs.length ≤ 1099511626000) (hB : ∀ x ∈ xs, 0 ≤ x ∧ x ≤ 255) :
    Calls Tryz.prog 42 #[.string s, v] w fun e w' => e = .returned (.tuple #[hashV (tagB (txt s) xs), .int .i64 0]) ∧ Up w w' := by
  have HT := hid hT
  have HV := hid hv
  have HTx := hid (txt_byt s)
  have HTl := hid (txt_length s)
  obtain ⟨h, hh⟩ : ∃ h, shaB (txt s) = h := ⟨_, rfl⟩
  have HH := hid hh
  have Hhb : Hid (∀ i, 0 ≤ h i ∧ h i ≤ 255) := hid (by rw [← hh]; exact shaB_range _)
  have HR : Hid (tagB (txt s) xs = shaB (hList h ++ hList h ++ xs)) := hid (by rw [tagB, hh])
  obtain ⟨R, hR⟩ : ∃ R, tagB (txt s) xs = R := ⟨_, rfl⟩
  rw [hR] at HR
  rw [hR]
  have HS1 := hid (fun w' (v' : Value) (hU : Up w w') (hv' : SeqAt .u8 w' v' (txt s)) => Sum_any v' (txt s) w' (HT.out.up hU) hv' (by rw [txt_length]; omega) HTx.out)
  rw [hh] at HS1
  have HS2 := hid (fun w' (v' : Value) (hU : Up w w') (hv' : SeqAt .u8 w' v' (hList h ++ hList h ++ xs)) => Sum_any v' _ w' (HT.out.up hU) hv' (by simp [hList_length]; omega) (by
    intro x hx
    simp only [List.mem_append] at hx
    rcases hx with (hx | hx) | hx
    · exact hList_byt Hhb.out x hx
    · exact hList_byt Hhb.out x hx
    · exact hB x hx))
  rw [← HR.out] at HS2
  have hcv := fun w' => run_bytes_of_string (P := Tryz.prog) w' 9 73 5 s Tryz.underlying9 Tryz.underlying73 Tryz.underlying5
  obtain ⟨n, hn⟩ : ∃ n, xs.length = n := ⟨_, rfl⟩
  have HN := hid hn
  obtain ⟨va, vc, rfl, _, _⟩ := hv.shape
  rw [hn] at HV hl
  rw [hn]
  clear hT hv hh hR hn hB
  go_enter Tryz.func42, Tryz.ntmps42
  go_wp2_with fail
  refine (HS1.out _ _ (((Up.refl w).alloc _).alloc _).drew (seq_text_at s _ _ _ (by simp) cap_ge (cap_le (by omega)))).mono ?_
  rintro e w1 ⟨rfl, hU1⟩
  have hZ1 : Blk w1 w.heap.size 31 (arrK .u8 (fun _ => 0) 32) := (((Blk.new rfl zero32).alloc _).up (Up.refl _).drew).up hU1
  have hU1 := (((Up.refl w).alloc _).alloc _).drew.trans hU1
  obtain ⟨o, ho⟩ : ∃ o, w.heap.size = o := ⟨_, rfl⟩
  have HOo := hid ho
  rw [ho] at hZ1
  rw [ho]
  have l1 := hZ1.lt
  clear hcv ho HS1
  unfold hashV
  go_wp2_with (first | (refine wpList_store_rowTo rfl 31 _ _ rfl rfl _ _ rfl rfl 31 _ (heap_alloc_new _ _) (by rw [arrK_size]; kernel_rfl) (by rw [arrK_size]; rfl) arrK_one ?_; rw [World.setRow_alloc_new]))
  obtain ⟨g, hg⟩ : ∃ g, w1.heap.size = g := ⟨_, rfl⟩
  rw [hg]
  obtain ⟨w2, hw2⟩ : ∃ w2, w1.alloc (.cells (arrK .u8 h 32) 31) = w2 := ⟨_, rfl⟩
  have hG2 : Blk w2 g 31 (arrK .u8 h 32) := by rw [← hw2]; exact Blk.new hg rfl
  have hZ2 : Blk w2 o 31 (arrK .u8 (fun _ => 0) 32) := by rw [← hw2]; exact hZ1.alloc _
  have hU2 : Up w w2 := by rw [← hw2]; exact hU1.alloc _
  rw [hg] at l1
  rw [hw2]
  have HG := hid (hashV_seq hG2)
  have HZ := hid hZ2
  have HU := hid hU2
  have hsz := hG2.lt
  clear hw2 hZ1 hU1 hG2 hZ2 hU2 hg
  have HLn := hid (hList_length h)
  have hwz := HU.out.size
  obtain ⟨cs, hcs⟩ : ∃ cs, (arrK .u8 R 32).toList = cs := ⟨_, rfl⟩
  have hV : hashV R = .agg cs.toArray := by rw [← hcs]; rfl
  have HCs := hid hV
  rw [hV] at HS2
  have hcl : cs.length = 32 := by rw [← hcs]; simp [arrK]
  have hci : (Tryz.prog.info? 31).map (·.size) = some cs.length := by rw [hcl]; kernel_rfl
  have hco : ∀ v ∈ cs, v.oneCell' = true := by
    rw [← hcs]
    intro v hv
    have := Array.all_eq_true_iff_forall_mem.1 (arrK_one (k := .u8) (f := R) (n := 32)) v (by simpa using hv)
    exact this
  clear hV hcs
  have hS0 := anyW w2
  have hS1 := anyW w2.drew
  go_region_held3 AnyW (exact anyW _) (first
    | (go_at_call 79; refine (bClone_any _ (hList h) _ (HG.out.up (by first | exact (Up.refl _).drew | exact Up.refl _ | exact (Up.refl _).drew.drew)) (by rw [hList_length]; omega)).mono ?_; rintro e w3 ⟨v3, rfl, hO3, hU3⟩; have hD3 := Up.trans (by first | exact (Up.refl w2).drew | exact Up.refl w2 | exact (Up.refl w2).drew.drew) hU3)
    | (refine step_app infoU8 Tryz.underlying73 (by omega) (by rfl) _ _ (by rfl) w2.heap.size (by rfl) (by rfl) hO3 (HG.out.up hD3) (by have := HLn.out; omega) hD3.size ?_; intro v4 w4 hO4 hg4; have hU4 := (HU.out.trans hD3).own hO3 hg4 hwz; have hB4 := below_own hO3 hg4 hD3.size)
    | (refine step_app infoU8 Tryz.underlying73 (by omega) (by rfl) _ _ (by rfl) w2.heap.size (by rfl) (by rfl) hO4 (HV.out.up hU4) (by have := HLn.out; have := HN.out; simp; omega) (by have := hB4.size; have := hD3.size; omega) ?_; intro v5 w5 hO5 hg5; have hU5 := hU4.own hO4 hg5 hwz; have hB5 := below_own hO4 hg5 (by have := hB4.size; have := hD3.size; omega))
    | (go_at_call 78; refine (HS2.out _ _ (by first | exact hU5 | exact hU5.drew) (by first | exact hO5.seq | exact hO5.seq.up (Up.refl _).drew)).mono ?_; rintro e w6 ⟨rfl, hU6⟩; have hZ6 := (((HZ.out.up hD3).below hB4 HZ.out.lt).below hB5 HZ.out.lt).up hU6; have hth : w6.there o 0 32 := hZ6.there (by rw [arrK_size]; omega)))
  have hZ7 := hZ6.mid cs (by rw [arrK_size, hcl])
  have hU7 := Up.setCells (g := o) (by have := HOo.out; omega) cs 0 (hU5.trans hU6)
  clear hO3 hU3 hD3 hO4 hg4 hU4 hB4 hO5 hg5 hU5 hB5 hU6 hZ6 hth
  go_wp2
  refine bodyPost_ret (v := .tuple #[.agg cs.toArray, .int .i64 0]) (results_row_tmp Tryz.results42 _ _ o 31 _ (0, 0) _ (by rfl) hZ7 Tryz.underlying31 rfl (by rw [hci]; simp)) rfl ⟨by rw [HCs.out], hU7⟩
end Go.Proofs.YtdbhleinhpiohaaGreatDoor
namespace Go.Sp

def encInt (n : Int) : List Int := 1 :: beL 8 (IntKind.u64.wrap n)
def encBytes (xs : List Int) : List Int := 2 :: (beL 4 xs.length ++ xs)
def encList (es : List (List Int)) : List Int := 3 :: (beL 4 es.length ++ es.flatten)

theorem encInt_length (n : Int) : (encInt n).length = 9 := by rw [encInt, List.length_cons, beL_length]
theorem encBytes_length (xs : List Int) : (encBytes xs).length = xs.length + 5 := by rw [encBytes, List.length_cons, List.length_append, beL_length]; omega
theorem encList_length (es : List (List Int)) : (encList es).length = es.flatten.length + 5 := by rw [encList, List.length_cons, List.length_append, beL_length]; omega

/-- The frame that a transcript hashes. -/
def frameE (h : Nat → Int) (label : List Int) (more : List (List Int)) : List Int := encList (encBytes (hList h) :: encBytes label :: more)

theorem frameE_length (h : Nat → Int) (label : List Int) (more : List (List Int)) : (frameE h label more).length = 47 + label.length + more.flatten.length := by
  rw [frameE, encList_length, List.flatten_cons, List.flatten_cons, List.length_append, List.length_append, encBytes_length, encBytes_length, hList_length]; omega

def tagTr : List Int := [115, 112, 101, 99, 105, 101, 47, 116, 114, 97, 110, 115, 99, 114, 105, 112, 116]
def tagAbsorb : List Int := [115, 112, 101, 99, 105, 101, 47, 97, 98, 115, 111, 114, 98]
def tagChal : List Int := [115, 112, 101, 99, 105, 101, 47, 99, 104, 97, 108, 108, 101, 110, 103, 101]
def tagCoin : List Int := [115, 112, 101, 99, 105, 101, 47, 99, 111, 105, 110]

def trNew (label : List Int) : Nat → Int := tagB tagTr label
def absB (h : Nat → Int) (label item : List Int) : Nat → Int := tagB tagAbsorb (frameE h label [item])
def chalN (h : Nat → Int) (label : List Int) (q : Int) : Int := numH (tagB tagChal (frameE h label [])) q

def lbSig : List Int := [115, 105, 103, 110, 97, 116, 117, 114, 101]
def lbGroup : List Int := [103, 114, 111, 117, 112]
def lbKey : List Int := [107, 101, 121]
def lbComm : List Int := [99, 111, 109, 109, 105, 116, 109, 101, 110, 116]
def lbMsg : List Int := [109, 101, 115, 115, 97, 103, 101]
def lbChal : List Int := [99, 104, 97, 108, 108, 101, 110, 103, 101]

def encInts (l : List Int) : List Int := encList (l.map encInt)

/-- The challenge of a signature. -/
def sigC (P Q G r y : Int) (m : List Int) : Int :=
  chalN (absB (absB (absB (absB (trNew lbSig) lbGroup (encInts [P, Q, G])) lbKey (encInts [y])) lbComm (encInts [r])) lbMsg (encBytes (hList (shaB m)))) lbChal Q

/-- The challenge of a coin. -/
def coinC (P Q G A B C p : Int) (root : Nat → Int) (z a b : Int) : Int :=
  numH (tagB tagCoin (encList ([P, Q, G, A, B, C, p].map encInt ++ encBytes (hList root) :: [z, a, b].map encInt))) Q

theorem numH_range (h : Nat → Int) {m : Int} (hm : 0 < m) : 0 ≤ numH h m ∧ numH h m < m := numB_range hm 16
theorem sigC_range (P G r y : Int) (m : List Int) {Q : Int} (hQ : 0 < Q) : 0 ≤ sigC P Q G r y m ∧ sigC P Q G r y m < Q := numH_range _ hQ
theorem coinC_range (P G A B C p : Int) (root : Nat → Int) (z a b : Int) {Q : Int} (hQ : 0 < Q) : 0 ≤ coinC P Q G A B C p root z a b ∧ coinC P Q G A B C p root z a b < Q := numH_range _ hQ

theorem beL_bytes (n : Nat) (x : Int) : ∀ y ∈ beL n x, 0 ≤ y ∧ y ≤ 255 := by
  intro y hy
  simp only [beL, List.mem_map] at hy
  obtain ⟨i, _, rfl⟩ := hy
  have := Int.emod_lt_of_pos (x / 2 ^ (8 * (n - 1 - i))) (show (0 : Int) < 256 by decide)
  exact ⟨Int.emod_nonneg _ (by decide), by omega⟩
theorem encInt_byt (n : Int) : ∀ y ∈ encInt n, 0 ≤ y ∧ y ≤ 255 := by
  intro y hy
  simp only [encInt, List.mem_cons] at hy
  rcases hy with rfl | hy
  · omega
  · exact beL_bytes _ _ y hy
theorem encBytes_byt {xs : List Int} (h : ∀ y ∈ xs, 0 ≤ y ∧ y ≤ 255) : ∀ y ∈ encBytes xs, 0 ≤ y ∧ y ≤ 255 := by
  intro y hy
  simp only [encBytes, List.mem_cons, List.mem_append] at hy
  rcases hy with rfl | hy | hy
  · omega
  · exact beL_bytes _ _ y hy
  · exact h y hy
theorem encList_byt {es : List (List Int)} (h : ∀ e ∈ es, ∀ y ∈ e, 0 ≤ y ∧ y ≤ 255) : ∀ y ∈ encList es, 0 ≤ y ∧ y ≤ 255 := by
  intro y hy
  simp only [encList, List.mem_cons, List.mem_append, List.mem_flatten] at hy
  rcases hy with rfl | hy | ⟨e, he, hy⟩
  · omega
  · exact beL_bytes _ _ y hy
  · exact h e he y hy
theorem hList_bytes {h : Nat → Int} (hB : Byt h) : ∀ y ∈ hList h, 0 ≤ y ∧ y ≤ 255 := by
  intro y hy
  simp only [hList, List.mem_map] at hy
  obtain ⟨i, _, rfl⟩ := hy
  exact hB i

/-- The items of a coin's challenge. -/
def coinL (P Q G A B C p : Int) (root : Nat → Int) (z a b : Int) : List (List Int) := [P, Q, G, A, B, C, p].map encInt ++ encBytes (hList root) :: [z, a, b].map encInt
theorem coinL_flat (P Q G A B C p : Int) (root : Nat → Int) (z a b : Int) : (coinL P Q G A B C p root z a b).flatten.length = 127 := by
  simp [coinL, encInt_length, encBytes_length, hList_length]
theorem coinL_byt {P Q G A B C p : Int} {root : Nat → Int} {z a b : Int} (hB : Byt root) : ∀ y ∈ encList (coinL P Q G A B C p root z a b), 0 ≤ y ∧ y ≤ 255 := by
  refine encList_byt fun e he => ?_
  simp only [coinL, List.map_cons, List.map_nil, List.mem_append, List.mem_cons, List.not_mem_nil, or_false] at he
  rcases he with (rfl | rfl | rfl | rfl | rfl | rfl | rfl) | rfl | rfl | rfl | rfl
  all_goals first | exact encInt_byt _ | exact encBytes_byt (hList_bytes hB)

end Go.Sp
namespace Go.Sp
open Go.RowKit

/-- An item as a value. -/
abbrev nilS : Value := .slice none 0 0
abbrev itm (k n : Int) (b l : Value) : Value := .agg #[.int .i64 k, .int .i64 n, b, l]

/-- The cells of an item at an offset of a block. -/
def ItmCells (w : World) (b o : Nat) (k n : Int) (vb vl : Value) : Prop :=
  w.cell? ⟨b, o, none⟩ = some (.int .i64 k) ∧ w.cell? ⟨b, o + 1, none⟩ = some (.int .i64 n) ∧ w.cell? ⟨b, o + 2, none⟩ = some vb ∧ w.cell? ⟨b, o + 3, none⟩ = some vl

/-- A slice of items, of which each has a property and an encoding. -/
def ItmRow (R : Int → Int → Value → Value → List Int → Prop) (w : World) (v : Value) (ess : List (List Int)) : Prop :=
  ∃ a cap, v = .slice a ess.length cap ∧ ess.length ≤ cap ∧ cap ≤ 9223372036854775807 ∧ (a = none → cap = 0) ∧
    ∀ i, i < ess.length → ∃ b off k n vb vl, a = some ⟨b, off, none⟩ ∧ ItmCells w b (off + i * 4) k n vb vl ∧ R k n vb vl (ess.getD i [])

/-- An integer, or bytes. -/
def Leaf (w : World) (k n : Int) (b l : Value) (es : List Int) : Prop :=
  (k = 1 ∧ b = nilS ∧ l = nilS ∧ es = encInt n) ∨ (k = 2 ∧ n = 0 ∧ l = nilS ∧ ∃ xs, SeqAt .u8 w b xs ∧ xs.length ≤ 1000000 ∧ (∀ x ∈ xs, 0 ≤ x ∧ x ≤ 255) ∧ es = encBytes xs)

/-- An item with so many lists about its leaves at most, and its encoding. -/
def ItmAt (w : World) : Nat → Int → Int → Value → Value → List Int → Prop
  | 0, k, n, b, l, es => Leaf w k n b l es
  | d + 1, k, n, b, l, es => Leaf w k n b l es ∨ (k = 3 ∧ n = 0 ∧ b = nilS ∧ ∃ ess, ess.length ≤ 1000 ∧ ItmRow (ItmAt w d) w l ess ∧ es = encList ess)

theorem ItmCells.up {w w' : World} {b o : Nat} {k n : Int} {vb vl : Value} (h : ItmCells w b o k n vb vl) (hU : Up w w') : ItmCells w' b o k n vb vl := by
  obtain ⟨h1, h2, h3, h4⟩ := h
  exact ⟨by rw [hU.cell (cell_in h1)]; exact h1, by rw [hU.cell (cell_in h1)]; exact h2, by rw [hU.cell (cell_in h1)]; exact h3, by rw [hU.cell (cell_in h1)]; exact h4⟩

theorem ItmRow.up {R R' : Int → Int → Value → Value → List Int → Prop} {w w' : World} {v : Value} {ess : List (List Int)} (h : ItmRow R w v ess) (hU : Up w w') (hR : ∀ k n b l es, R k n b l es → R' k n b l es) : ItmRow R' w' v ess := by
  obtain ⟨a, cap, h1, h2, h3, h4, h5⟩ := h
  refine ⟨a, cap, h1, h2, h3, h4, fun i hi => ?_⟩
  obtain ⟨b, off, k, n, vb, vl, ha, hc, hr⟩ := h5 i hi
  exact ⟨b, off, k, n, vb, vl, ha, hc.up hU, hR _ _ _ _ _ hr⟩

theorem Leaf.up {w w' : World} {k n : Int} {b l : Value} {es : List Int} (h : Leaf w k n b l es) (hU : Up w w') : Leaf w' k n b l es := by
  rcases h with h | ⟨h1, h2, h3, xs, h4, h5⟩
  · exact .inl h
  · exact .inr ⟨h1, h2, h3, xs, h4.up hU, h5⟩

theorem ItmAt.up {w w' : World} (hU : Up w w') : ∀ {d : Nat} {k n : Int} {b l : Value} {es : List Int}, ItmAt w d k n b l es → ItmAt w' d k n b l es
  | 0, _, _, _, _, _, h => Leaf.up h hU
  | _ + 1, _, _, _, _, _, .inl h => .inl (h.up hU)
  | _ + 1, _, _, _, _, _, .inr ⟨h1, h2, h3, ess, h4, h5, h6⟩ => .inr ⟨h1, h2, h3, ess, h4, h5.up hU fun _ _ _ _ _ => ItmAt.up hU, h6⟩

theorem ItmAt.leaf {w : World} {k n : Int} {b l : Value} {es : List Int} (h : Leaf w k n b l es) : ∀ d, ItmAt w d k n b l es
  | 0 => h
  | _ + 1 => .inl h

theorem ItmAt.more {w : World} : ∀ {d : Nat} {k n : Int} {b l : Value} {es : List Int}, ItmAt w d k n b l es → ItmAt w (d + 1) k n b l es
  | 0, _, _, _, _, _, h => .inl h
  | _ + 1, _, _, _, _, _, .inl h => .inl h
  | _ + 1, _, _, _, _, _, .inr ⟨h1, h2, h3, ess, h4, h5, h6⟩ => .inr ⟨h1, h2, h3, ess, h4, h5.up (Up.refl _) fun _ _ _ _ _ => ItmAt.more, h6⟩

theorem itm_int (w : World) (n : Int) (d : Nat) : ItmAt w d 1 n nilS nilS (encInt n) := ItmAt.leaf (.inl ⟨rfl, rfl, rfl, rfl⟩) d
theorem itm_bytes {w : World} {v : Value} {xs : List Int} (h : SeqAt .u8 w v xs) (hl : xs.length ≤ 1000000) (hB : ∀ x ∈ xs, 0 ≤ x ∧ x ≤ 255) (d : Nat) : ItmAt w d 2 0 v nilS (encBytes xs) :=
  ItmAt.leaf (.inr ⟨rfl, rfl, rfl, xs, h, hl, hB, rfl⟩) d
theorem itm_list {w : World} {v : Value} {ess : List (List Int)} {d : Nat} (h : ItmRow (ItmAt w d) w v ess) (hl : ess.length ≤ 1000) : ItmAt w (d + 1) 3 0 nilS v (encList ess) := .inr ⟨rfl, rfl, rfl, ess, hl, h, rfl⟩

/-- What writes as far as 16384 bytes. -/
def Wrote (xs es ys : List Int) : Prop := (xs.length + es.length ≤ 16384 → ys = xs ++ es) ∧ (16384 < xs.length + es.length → 16384 < ys.length) ∧ ys.length ≤ xs.length + es.length

theorem Wrote.full {xs : List Int} (es : List Int) (h : 16384 < xs.length) : Wrote xs es xs := ⟨fun h' => by omega, fun _ => h, by omega⟩
theorem Wrote.all (xs es : List Int) : Wrote xs es (xs ++ es) := ⟨fun _ => rfl, fun h => by rw [List.length_append]; exact h, by rw [List.length_append]; omega⟩
theorem Wrote.next {xs a ys b zs : List Int} (h : Wrote xs a ys) (k : Wrote ys b zs) : Wrote xs (a ++ b) zs := by
  obtain ⟨h1, h2, h3⟩ := h
  obtain ⟨k1, k2, k3⟩ := k
  rw [Wrote, List.length_append]
  refine ⟨fun hl => ?_, fun hl => ?_, by omega⟩
  · have e1 := h1 (by omega)
    rw [k1 (by rw [e1, List.length_append]; omega), e1, List.append_assoc]
  · by_cases hx : xs.length + a.length ≤ 16384
    · have e1 := h1 hx
      exact k2 (by rw [e1, List.length_append]; omega)
    · have := h2 (by omega)
      exact k2 (by omega)

theorem flatten_take {ess : List (List Int)} {i : Nat} (hi : i < ess.length) : (ess.take (i + 1)).flatten = (ess.take i).flatten ++ ess.getD i [] := by
  rw [List.take_succ_eq_append_getElem hi, List.flatten_append]
  simp [hi]
theorem flatten_take_le (ess : List (List Int)) (i : Nat) : (ess.take i).flatten.length ≤ ess.flatten.length := by
  have : ess.flatten = (ess.take i).flatten ++ (ess.drop i).flatten := by rw [← List.flatten_append, List.take_append_drop]
  rw [this, List.length_append]
  omega
theorem flatten_at_le {ess : List (List Int)} {i : Nat} (hi : i < ess.length) : (ess.take i).flatten.length + (ess.getD i []).length ≤ ess.flatten.length := by
  have h := flatten_take_le ess (i + 1)
  rw [flatten_take hi, List.length_append] at h
  exact h

/-- The four cells of an item. -/
structure Quad where
  (k n : Int)
  (b l : Value)
def Quad.cells (q : Quad) : List Value := [.int .i64 q.k, .int .i64 q.n, q.b, q.l]
/-- The items are the call's own. -/
def OwnQ (e : TypeId) (w : World) (base : Nat) (v : Value) (qs : List Quad) : Prop := w.ownsRow base e 4 v qs.length (qs.flatMap Quad.cells)
/-- Each of the items has its encoding. -/
def QuadAt (w : World) (d : Nat) (qs : List Quad) (ess : List (List Int)) : Prop := qs.length = ess.length ∧ ∀ i (h : i < qs.length), ItmAt w d qs[i].k qs[i].n qs[i].b qs[i].l (ess.getD i [])

theorem quads_at (qs : List Quad) (i j : Nat) (h : i < qs.length) (hj : j < 4) : (qs.flatMap Quad.cells)[i * 4 + j]? = (qs[i].cells)[j]? := by
  induction qs generalizing i with
  | nil => simp at h
  | cons q qs ih =>
    rw [List.flatMap_cons]
    have hl : q.cells.length = 4 := rfl
    cases i with
    | zero =>
      rw [List.getElem?_append_left (by omega)]
      simp
    | succ i =>
      rw [List.getElem?_append_right (by omega), hl, show (i + 1) * 4 + j - 4 = i * 4 + j by omega, ih i (by simpa using h)]
      simp
theorem quads_length (qs : List Quad) : (qs.flatMap Quad.cells).length = qs.length * 4 := by
  induction qs with
  | nil => rfl
  | cons q qs ih =>
    rw [List.flatMap_cons, List.length_append, ih, List.length_cons]
    have hl : q.cells.length = 4 := rfl
    omega

theorem ownQ_none {e : TypeId} {w : World} {base : Nat} : OwnQ e w base nilS [] := ⟨by simp, .inl ⟨rfl, rfl⟩⟩

theorem OwnQ.row {e : TypeId} {w : World} {base : Nat} {v : Value} {qs : List Quad} {d : Nat} {ess : List (List Int)} (h : OwnQ e w base v qs) (hq : QuadAt w d qs ess) : ItmRow (ItmAt w d) w v ess := by
  obtain ⟨hlen, hq⟩ := hq
  have hh := h
  rcases h.2 with ⟨hv, hn⟩ | ⟨g, cap, cur, rfl, hb, hg, hn, hm, hs, ht⟩
  · exact ⟨none, 0, by rw [hv, ← hlen, hn], by omega, by omega, fun _ => rfl, fun i hi => by omega⟩
  · refine ⟨_, cap, by rw [hlen], by omega, by unfold maxLen at hm; omega, (fun h => by cases h), fun i hi => ?_⟩
    have hi' : i < qs.length := by omega
    have hc : ∀ j, j < 4 → w.cell? ⟨g, 0 + i * 4 + j, none⟩ = qs[i].cells[j]? := fun j hj => by
      rw [← quads_at qs i j hi' hj, Nat.zero_add]
      exact World.ownsRow.cellAt hh (i * 4 + j) (by omega)
    refine ⟨g, 0, qs[i].k, qs[i].n, qs[i].b, qs[i].l, rfl, ⟨by rw [show 0 + i * 4 = 0 + i * 4 + 0 from rfl, hc 0 (by omega)]; rfl, by rw [hc 1 (by omega)]; rfl, by rw [hc 2 (by omega)]; rfl, by rw [hc 3 (by omega)]; rfl⟩, hq i hi'⟩

theorem Leaf.one {w : World} {k n : Int} {b l : Value} {es : List Int} (h : Leaf w k n b l es) : b.oneCell' = true ∧ l.oneCell' = true := by
  rcases h with ⟨_, rfl, rfl, _⟩ | ⟨_, _, rfl, xs, h, _⟩
  · exact ⟨rfl, rfl⟩
  · obtain ⟨a, cap, rfl, _⟩ := h
    exact ⟨rfl, rfl⟩
theorem ItmAt.one {w : World} : ∀ {d : Nat} {k n : Int} {b l : Value} {es : List Int}, ItmAt w d k n b l es → b.oneCell' = true ∧ l.oneCell' = true
  | 0, _, _, _, _, _, h => Leaf.one h
  | _ + 1, _, _, _, _, _, .inl h => h.one
  | _ + 1, _, _, _, _, _, .inr ⟨_, _, h, ess, _, h5, _⟩ => by
    obtain ⟨a, cap, rfl, _⟩ := h5
    subst h
    exact ⟨rfl, rfl⟩

/-- append(l, more...) onto the call's own items: at the operation of a walk. -/
theorem wp_appQ {P : Program} {e t : TypeId} {z : Value} {bytes : Nat} (hI : (P.info? e).map (fun i => (i.zero, i.size, i.bytes)) = some (some z, 4, bytes)) (hz : z.cells.size = 4) (ht : P.underlying t = some (.slice e)) (hby : bytes ≤ 64)
    {ops : Array Oper} {rest : List Oper} {o : Oper} {a : Act} {w : World} {Q : Exit → Act → World → Prop} (hgd : o.guard = none) (s x : Operand)
    (ho : o.op = .call { callee := .builtin .append, args := #[s, x], argTypes := #[t, t] })
    (base : Nat) {v : Value} {qs news : List Quad} (hs : a.eval s = v) (hown : OwnQ e w base v qs) (g c : Nat) (hx : a.eval x = .slice (some ⟨g, 0, none⟩) news.length c)
    (hblk : ∀ i (h : i < news.length), ItmCells w g (i * 4) news[i].k news[i].n news[i].b news[i].l) (hone : ∀ i (h : i < news.length), news[i].b.oneCell' = true ∧ news[i].l.oneCell' = true)
    (hroom : qs.length + news.length ≤ 1000000) (hbase : base ≤ w.heap.size)
    (h : ∀ v' w', OwnQ e w' base v' (qs ++ news) → w.grownBy w' v.ownBlock → wpList P ops Q rest (a.put o.dst v') w') : wpList P ops Q (o :: rest) a w := by
  obtain ⟨i0, hi, hz0, hz1, hz2⟩ := info_parts hI
  refine wpList_append_own w hgd s x t ho base e i0 z 4 bytes ht hi hz0 hz1 hz2 hz (by decide) v qs.length _ hs hown ⟨g, 0, none⟩ news.length c (news.flatMap Quad.cells) hx (quads_length _) (fun j u hj => ?_) (fun u hu => ?_) (by unfold maxLen; omega) (by
      have := Nat.mul_le_mul hroom hby
      omega) hbase fun v' w' h1 h2 _ => h v' w' (by
        unfold OwnQ
        rw [List.length_append, List.flatMap_append]
        exact h1) h2
  · have hj2 : j < news.length * 4 := by
      have := (List.getElem?_eq_some_iff.1 hj).1
      rw [quads_length] at this
      exact this
    rw [Addr.add_lit, Nat.zero_add]
    obtain ⟨c0, c1, c2, c3⟩ := hblk (j / 4) (by omega)
    have hq := quads_at news (j / 4) (j % 4) (by omega) (by omega)
    rw [show j / 4 * 4 + j % 4 = j by omega, hj] at hq
    have hr : j % 4 = 0 ∨ j % 4 = 1 ∨ j % 4 = 2 ∨ j % 4 = 3 := by omega
    rw [show j = j / 4 * 4 + j % 4 by omega]
    rcases hr with hr | hr | hr | hr <;> rw [hr] at hq ⊢ <;> simp only [Quad.cells, List.getElem?_cons_zero, List.getElem?_cons_succ] at hq
    · rw [hq]; exact c0
    · rw [hq]; exact c1
    · rw [hq]; exact c2
    · rw [hq]; exact c3
  · obtain ⟨q, hq, hu⟩ := List.mem_flatMap.1 hu
    obtain ⟨i, hi, rfl⟩ := List.getElem_of_mem hq
    obtain ⟨o1, o2⟩ := hone i hi
    simp only [Quad.cells, List.mem_cons, List.not_mem_nil, or_false] at hu
    rcases hu with rfl | rfl | rfl | rfl
    · rfl
    · rfl
    · exact o1
    · exact o2

theorem QuadAt.nil (w : World) (d : Nat) : QuadAt w d [] [] := ⟨rfl, fun i h => by simp at h⟩
theorem QuadAt.app {w : World} {d : Nat} {qs rs : List Quad} {es fs : List (List Int)} (h : QuadAt w d qs es) (k : QuadAt w d rs fs) : QuadAt w d (qs ++ rs) (es ++ fs) := by
  refine ⟨by rw [List.length_append, List.length_append, h.1, k.1], fun i hi => ?_⟩
  rw [List.length_append] at hi
  by_cases h1 : i < qs.length
  · rw [List.getElem_append_left h1, List.getD_eq_getElem?_getD, List.getElem?_append_left (by have := h.1; omega), ← List.getD_eq_getElem?_getD]
    exact h.2 i h1
  · rw [List.getElem_append_right (by omega), List.getD_eq_getElem?_getD, List.getElem?_append_right (by have := h.1; omega), ← List.getD_eq_getElem?_getD, ← h.1]
    exact k.2 (i - qs.length) (by omega)
theorem QuadAt.one {w : World} {d : Nat} {q : Quad} {es : List Int} (h : ItmAt w d q.k q.n q.b q.l es) : QuadAt w d [q] [es] :=
  ⟨rfl, fun i hi => by
    obtain rfl : i = 0 := by simp at hi; omega
    exact h⟩

theorem OwnQ.up {e : TypeId} {w w' : World} {base : Nat} {v : Value} {qs : List Quad} (h : OwnQ e w base v qs) (hU : Up w w') : OwnQ e w' base v qs := ownsRow_later h hU
theorem QuadAt.up {w w' : World} {d : Nat} {qs : List Quad} {ess : List (List Int)} (h : QuadAt w d qs ess) (hU : Up w w') : QuadAt w' d qs ess := ⟨h.1, fun i hi => (h.2 i hi).up hU⟩
theorem OwnQ.block {e : TypeId} {w : World} {base : Nat} {v : Value} {qs : List Quad} (h : OwnQ e w base v qs) (j : Nat) (hj : v.ownBlock = some j) : base ≤ j := by
  rcases h.2 with ⟨hv, _⟩ | ⟨g, cap, cur, rfl, hb, _⟩
  · rw [hv] at hj; cases hj
  · simp [Value.ownBlock] at hj; omega
theorem OwnQ.shape {e : TypeId} {w : World} {base : Nat} {v : Value} {qs : List Quad} (h : OwnQ e w base v qs) : ∃ a c, v = .slice a qs.length c := by
  rcases h.2 with ⟨hv, hn⟩ | ⟨g, cap, cur, rfl, _⟩
  · exact ⟨none, 0, by rw [hv, hn]⟩
  · exact ⟨_, _, rfl⟩
theorem OwnQ.below {e : TypeId} {w w' : World} {base : Nat} {v : Value} {qs : List Quad} (h : OwnQ e w base v qs) (hg : w.grownBy w' v.ownBlock) (hb : base ≤ w.heap.size) : Below base w w' := Below.grown (Below.refl base w) hg hb fun j hj => h.block j hj

/-- append(l, more...) onto the call's own items: at the operation. -/
theorem op_appQ {P : Program} {e t : TypeId} {z : Value} {bytes : Nat} (hI : (P.info? e).map (fun i => (i.zero, i.size, i.bytes)) = some (some z, 4, bytes)) (hz : z.cells.size = 4) (ht : P.underlying t = some (.slice e)) (hby : bytes ≤ 64)
    {o : Oper} {a : Act} {w : World} {K : Act → World → Prop} {Q : Exit → Act → World → Prop} (s x : Operand)
    (ho : o.op = .call { callee := .builtin .append, args := #[s, x], argTypes := #[t, t] })
    (base : Nat) {v : Value} {qs news : List Quad} (hs : a.eval s = v) (hown : OwnQ e w base v qs) (g c : Nat) (hx : a.eval x = .slice (some ⟨g, 0, none⟩) news.length c)
    (hblk : ∀ i (h : i < news.length), ItmCells w g (i * 4) news[i].k news[i].n news[i].b news[i].l) (hone : ∀ i (h : i < news.length), news[i].b.oneCell' = true ∧ news[i].l.oneCell' = true)
    (hroom : qs.length + news.length ≤ 1000000) (hbase : base ≤ w.heap.size)
    (h : ∀ v' w', OwnQ e w' base v' (qs ++ news) → w.grownBy w' v.ownBlock → K (a.put o.dst v') w') : o.wp P a w K Q := by
  obtain ⟨i0, hi, hz0, hz1, hz2⟩ := info_parts hI
  refine wp_append_own w s x t ho base e i0 z 4 bytes ht hi hz0 hz1 hz2 hz (by decide) v qs.length _ hs hown ⟨g, 0, none⟩ news.length c (news.flatMap Quad.cells) hx (quads_length _) (fun j u hj => ?_) (fun u hu => ?_) (by unfold maxLen; omega) (by
      have := Nat.mul_le_mul hroom hby
      omega) hbase fun v' w' h1 h2 _ => h v' w' (by
        unfold OwnQ
        rw [List.length_append, List.flatMap_append]
        exact h1) h2
  · have hj2 : j < news.length * 4 := by
      have := (List.getElem?_eq_some_iff.1 hj).1
      rw [quads_length] at this
      exact this
    rw [Addr.add_lit, Nat.zero_add]
    obtain ⟨c0, c1, c2, c3⟩ := hblk (j / 4) (by omega)
    have hq := quads_at news (j / 4) (j % 4) (by omega) (by omega)
    rw [show j / 4 * 4 + j % 4 = j by omega, hj] at hq
    have hr : j % 4 = 0 ∨ j % 4 = 1 ∨ j % 4 = 2 ∨ j % 4 = 3 := by omega
    rw [show j = j / 4 * 4 + j % 4 by omega]
    rcases hr with hr | hr | hr | hr <;> rw [hr] at hq ⊢ <;> simp only [Quad.cells, List.getElem?_cons_zero, List.getElem?_cons_succ] at hq
    · rw [hq]; exact c0
    · rw [hq]; exact c1
    · rw [hq]; exact c2
    · rw [hq]; exact c3
  · obtain ⟨q, hq, hu⟩ := List.mem_flatMap.1 hu
    obtain ⟨i, hi, rfl⟩ := List.getElem_of_mem hq
    obtain ⟨o1, o2⟩ := hone i hi
    simp only [Quad.cells, List.mem_cons, List.not_mem_nil, or_false] at hu
    rcases hu with rfl | rfl | rfl | rfl
    · rfl
    · rfl
    · exact o1
    · exact o2

/-- The same at a step of a region that draws its order. -/
theorem step_appQ {P : Program} {e t : TypeId} {z : Value} {bytes : Nat} (hI : (P.info? e).map (fun i => (i.zero, i.size, i.bytes)) = some (some z, 4, bytes)) (hz : z.cells.size = 4) (ht : P.underlying t = some (.slice e)) (hby : bytes ≤ 64)
    {ops : Array Oper} {o : Oper} {a : Act} {w : World} {K : Act → World → Prop} {Q : Exit → Act → World → Prop} {E : Prop} (hgd : o.guard = none) (s x : Operand)
    (ho : o.op = .call { callee := .builtin .append, args := #[s, x], argTypes := #[t, t] })
    (base : Nat) {v : Value} {qs news : List Quad} (hs : a.eval s = v) (hown : OwnQ e w base v qs) (g c : Nat) (hx : a.eval x = .slice (some ⟨g, 0, none⟩) news.length c)
    (hblk : ∀ i (h : i < news.length), ItmCells w g (i * 4) news[i].k news[i].n news[i].b news[i].l) (hone : ∀ i (h : i < news.length), news[i].b.oneCell' = true ∧ news[i].l.oneCell' = true)
    (hroom : qs.length + news.length ≤ 1000000) (hbase : base ≤ w.heap.size)
    (h : ∀ v' w', OwnQ e w' base v' (qs ++ news) → w.grownBy w' v.ownBlock → K (a.put o.dst v') w') : if Region.wanted o (yielded ops a.tmps) = true then Oper.wp P o a w K Q else E := by
  have hw : Region.wanted o (yielded ops a.tmps) = true := by simp [Region.wanted, hgd]
  rw [if_pos hw]
  exact op_appQ hI hz ht hby s x ho base hs hown g c hx hblk hone hroom hbase h

theorem itm_new {w : World} {g : Nat} {k n : Int} {b l : Value} {t : TypeId} (hg : w.heap.size = g) : ItmCells (w.alloc (.cells #[.int .i64 k, .int .i64 n, b, l] t)) g 0 k n b l := by
  have h : Blk (w.alloc (.cells #[.int .i64 k, .int .i64 n, b, l] t)) g t #[.int .i64 k, .int .i64 n, b, l] := Blk.new hg rfl
  exact ⟨h.val rfl, h.val rfl, h.val rfl, h.val rfl⟩

theorem OwnQ.set {e : TypeId} {w : World} {base : Nat} {v : Value} {qs : List Quad} (h : OwnQ e w base v qs) {a : Addr} (ha : a.block < base) (x : Value) : OwnQ e (w.setCell a x) base v qs := by
  refine ⟨h.1, ?_⟩
  rcases h.2 with hn | ⟨g, cap, cur, rfl, hb, hg, rest⟩
  · exact .inl hn
  · exact .inr ⟨g, cap, cur, rfl, hb, by rw [Below.heap_setCell w a x g (by omega)]; exact hg, rest⟩
end Go.Sp
namespace Go.Proofs.YtdbhleinhpiohaaGreatDoor
open Go.RowKit Go.Sp
set_option maxHeartbeats 2000000
set_option maxRecDepth 20000

theorem within_1 (D k n : Int) (b l : Value) (g : Nat) (w : World) (hb : w.cell? ⟨g, 0, none⟩ = some (.int .i64 D)) (h1 : 1 ≤ D) (h8 : D ≤ 8)
    (hf : ∀ w', Up w w' → Calls Tryz.prog 91 #[itm k n b l, .int .i64 (D - 1)] w' fun e w'' => e = .returned (.bool true) ∧ Up w' w'') :
    Calls Tryz.prog 106 #[itm k n b l, .pointer (some ⟨g, 0, none⟩)] w fun e w' => e = .returned (.bool false) ∧ Up w w' := by
  have HF := hid hf
  clear hf
  go_enter Tryz.func106, Tryz.ntmps106
  have lg := cell_in hb
  go_wp2_with fail
  refine (HF.out _ ((Up.refl w).alloc _)).mono ?_
  rintro e w1 ⟨rfl, hU1⟩
  go_wp2
  go_ret
  exact ⟨rfl, ((Up.refl w).alloc _).trans hU1⟩

theorem IndexFuncQ (c : Value) (ess : List (List Int)) (R : Int → Int → Value → Value → List Int → Prop) (v : Value) (w : World) (hv : ItmRow R w v ess)
    (hf : ∀ k n b l es, R k n b l es → ∀ w', Up w w' → Calls Tryz.prog 106 #[itm k n b l, c] w' fun e w'' => e = .returned (.bool false) ∧ Up w' w'') :
    Calls Tryz.prog 115 #[v, .func (.func 106) #[] #[c]] w fun e w' => e = .returned (.int .i64 (-1)) ∧ Up w w' := by
  have HF := hid hf
  clear hf
  obtain ⟨a, cap, rfl, hc, hc63, _, hi⟩ := hv
  obtain ⟨m, hm⟩ : ∃ m, ess.length = m := ⟨_, rfl⟩
  rw [hm] at hc hi
  rw [hm]
  have HI := hid hi
  clear hi hm
  go_enter Tryz.func115, Tryz.ntmps115
  go_wp2_with fail
  go_loopw [8] (fun vi wr => ∃ i : Nat, i ≤ m ∧ vi = .int .i64 i ∧ Hid (Up w wr)) (fun vi _ => m - (intOf vi).toNat)
  case atStart => exact ⟨0, by omega, rfl, hid (Up.refl _)⟩
  case round =>
    obtain ⟨i, him, rfl, HU⟩ := hrel
    by_cases hl : i < m
    · obtain ⟨b, off, k, n, vb, vl, rfl, hc, hr⟩ := HI.out i hl
      obtain ⟨c0, c1, c2, c3⟩ := hc.up HU.out
      have HE := hid (HF.out k n vb vl _ hr)
      clear hc hr
      go_wp2_with fail
      refine (HE.out _ HU.out).mono ?_
      rintro e w2 ⟨rfl, hU2⟩
      have HU2 := hid (HU.out.trans hU2)
      clear hU2 c0 c1 c2 c3 HE
      go_wp2_with fail
      go_roundw
      case rel => exact ⟨i + 1, by omega, by go_num, HU2⟩
      case measure => simp [intOf]; omega
    · have hl2 : decide (i < m) = false := by simpa using hl
      go_wp2
      go_ret
      exact ⟨rfl, HU.out⟩

theorem ContainsFuncQ (c : Value) (ess : List (List Int)) (R : Int → Int → Value → Value → List Int → Prop) (v : Value) (w : World) (hv : ItmRow R w v ess)
    (hf : ∀ k n b l es, R k n b l es → ∀ w', Up w w' → Calls Tryz.prog 106 #[itm k n b l, c] w' fun e w'' => e = .returned (.bool false) ∧ Up w' w'') :
    Calls Tryz.prog 105 #[v, .func (.func 106) #[] #[c]] w fun e w' => e = .returned (.bool false) ∧ Up w w' := by
  have HI := hid (IndexFuncQ c ess R v w hv hf)
  clear hf hv
  go_enter Tryz.func105, Tryz.ntmps105
  go_wp2_with fail
  refine HI.out.mono ?_
  rintro e w2 ⟨rfl, hU2⟩
  go_wp2
  go_ret
  exact ⟨rfl, hU2⟩

theorem within_list (D : Int) (v : Value) (ess : List (List Int)) (R : Int → Int → Value → Value → List Int → Prop) (w : World) (h1 : 1 ≤ D) (h8 : D ≤ 8) (hl : ess.length ≤ 1000) (hv : ItmRow R w v ess)
    (hf : ∀ k n b l es, R k n b l es → ∀ w', Up w w' → Calls Tryz.prog 91 #[itm k n b l, .int .i64 (D - 1)] w' fun e w'' => e = .returned (.bool true) ∧ Up w' w'') :
    Calls Tryz.prog 91 #[itm 3 0 nilS v, .int .i64 D] w fun e w' => e = .returned (.bool true) ∧ Up w w' := by
  have HF := hid hf
  have HV := hid hv
  obtain ⟨a, cap, rfl, hc, hc63, _, _⟩ := hv
  obtain ⟨m, hm⟩ : ∃ m, ess.length = m := ⟨_, rfl⟩
  rw [hm] at HV hl hc
  rw [hm]
  have d1 : decide (D > 0) = true := by simp; omega
  have d2 : decide ((m : Int) ≤ 1000) = true := by simp; omega
  clear hf hm
  go_enter Tryz.func91, Tryz.ntmps91
  go_wp2_with fail
  have hg : ((w.alloc (.cells #[.int .i64 3, .int .i64 0, nilS, .slice a m cap] 76)).alloc (.cells #[.int .i64 D] 3)).cell? ⟨w.heap.size + 1, 0, none⟩ = some (.int .i64 D) := (Blk.new (cs := #[.int .i64 D]) (t := 3) (w := w.alloc (.cells #[.int .i64 3, .int .i64 0, nilS, .slice a m cap] 76)) (by simp) rfl).val rfl
  have HG := hid hg
  clear hg
  refine (ContainsFuncQ (.pointer (some ⟨w.heap.size + 1, 0, none⟩)) ess R _ _ (HV.out.up (((Up.refl w).alloc _).alloc _) fun _ _ _ _ _ h => h) (fun k n b l es hr w' hU => within_1 D k n b l _ w' (by rw [hU.cell (cell_in HG.out)]; exact HG.out) h1 h8 fun w'' hU2 => HF.out k n b l es hr w'' ((((Up.refl w).alloc _).alloc _).trans (hU.trans hU2)))).mono ?_
  rintro e w1 ⟨rfl, hU1⟩
  go_wp2
  go_ret
  exact ⟨rfl, (((Up.refl w).alloc _).alloc _).trans hU1⟩

theorem within_leaf (D k n : Int) (b l : Value) (es : List Int) (w : World) (h : Leaf w k n b l es) :
    Calls Tryz.prog 91 #[itm k n b l, .int .i64 D] w fun e w' => e = .returned (.bool true) ∧ Up w w' := by
  rcases h with ⟨rfl, rfl, rfl, _⟩ | ⟨rfl, rfl, rfl, xs, h, _⟩
  · go_enter Tryz.func91, Tryz.ntmps91
    go_wp2
    go_ret
    exact ⟨rfl, ((Up.refl w).alloc _).alloc _⟩
  · obtain ⟨a, cap, rfl, _⟩ := h
    go_enter Tryz.func91, Tryz.ntmps91
    go_wp2
    go_ret
    exact ⟨rfl, ((Up.refl w).alloc _).alloc _⟩

theorem within_ok : ∀ (d : Nat) (D k n : Int) (b l : Value) (es : List Int) (w : World), (d : Int) ≤ D → D ≤ 8 → ItmAt w d k n b l es →
    Calls Tryz.prog 91 #[itm k n b l, .int .i64 D] w fun e w' => e = .returned (.bool true) ∧ Up w w'
  | 0, D, k, n, b, l, es, w, _, _, h => within_leaf D k n b l es w h
  | d + 1, D, k, n, b, l, es, w, h1, h8, h => by
    rcases h with h | ⟨rfl, rfl, rfl, ess, hl, hr, _⟩
    · exact within_leaf D k n b l es w h
    · exact within_list D l ess _ w (by omega) h8 hl hr fun k n b l es h w' hU => within_ok d (D - 1) k n b l es w' (by omega) (by omega) (h.up hU)

theorem encValid_ok {d : Nat} {k n : Int} {b l : Value} {es : List Int} {w : World} (h : ItmAt w d k n b l es) (hd : d ≤ 8) :
    Calls Tryz.prog 76 #[itm k n b l] w fun e w' => e = .returned (.bool true) ∧ Up w w' := by
  have HW := hid (fun w' (hU : Up w w') => within_ok d 8 k n b l es w' (by omega) (by omega) (h.up hU))
  clear h
  go_enter Tryz.func76, Tryz.ntmps76
  go_wp2_with fail
  refine (HW.out _ ((Up.refl w).alloc _)).mono ?_
  rintro e w1 ⟨rfl, hU1⟩
  go_wp2
  go_ret
  exact ⟨rfl, ((Up.refl w).alloc _).trans hU1⟩

theorem beL_snoc (size : Nat) (n : Int) (i : Nat) (hi : i < size) : (beL size n).take (i + 1) = (beL size n).take i ++ [n / 2 ^ (8 * (size - 1 - i)) % 256] := by
  rw [List.take_add_one]
  congr 1
  have : i < (beL size n).length := by rw [beL_length]; exact hi
  rw [List.getElem?_eq_getElem this]
  simp [beL]
end Go.Proofs.YtdbhleinhpiohaaGreatDoor
namespace Go.Sp
open Go.RowKit

/-- append(v, u...) onto the call's own, u not empty; the new slice lies where the old one lay, or in a new block. -/
theorem wp_app_at {P : Program} {e t : TypeId} {k : IntKind} {bytes : Nat} (hI : (P.info? e).map (fun i => (i.zero, i.size, i.bytes)) = some (some (.int k 0), 1, bytes)) (ht : P.underlying t = some (.slice e)) (hby : bytes ≤ 8)
    {ops : Array Oper} {rest : List Oper} {o : Oper} {a : Act} {w : World} {Q : Exit → Act → World → Prop} (hgd : o.guard = none) (s x : Operand)
    (ho : o.op = .call { callee := .builtin .append, args := #[s, x], argTypes := #[t, t] })
    (base : Nat) {v u : Value} {xs ys : List Int} (hs : a.eval s = v) (hx : a.eval x = u) (hown : OwnS e k w base v xs) (hsrc : SeqAt k w u ys) (hne : ys ≠ []) (hroom : xs.length + ys.length ≤ 17592186044416) (hbase : base ≤ w.heap.size)
    (h : ∀ v' w', OwnS e k w' base v' (xs ++ ys) → w.grownBy w' v.ownBlock → (v'.ownBlock = v.ownBlock ∨ v'.ownBlock = some w.heap.size) → wpList P ops Q rest (a.put o.dst v') w') : wpList P ops Q (o :: rest) a w := by
  obtain ⟨i0, hi, hz0, hz1, hz2⟩ := info_parts hI
  obtain ⟨ad, cap, rfl, _, _, hcap, hc⟩ := hsrc
  have hown' : w.ownsRow base e 1 v xs.length (xs.map (Value.int k)) := hown
  obtain ⟨b, off, rfl, hcell⟩ := hc hne
  refine wpList_append_own_at w hgd s x t ho base e i0 (.int k 0) 1 bytes ht hi hz0 hz1 hz2 rfl (by decide) v xs.length _ hs hown' ⟨b, off, none⟩ ys.length cap (ys.map (Value.int k)) hx (by simp) (fun j u hj => by
      simp only [List.getElem?_map, Option.map_eq_some_iff] at hj
      obtain ⟨y, hy, rfl⟩ := hj
      have hj2 : j < ys.length := (List.getElem?_eq_some_iff.1 hy).1
      have := hcell j hj2
      rw [Addr.add_lit, this]
      simp [hy]) (ints_oneCell _ _) (by unfold maxLen; omega) (by
      have := Nat.mul_le_mul hroom hby
      omega) hbase fun v' w' h1 h2 _ h4 => h v' w' (by
        unfold OwnS
        rw [List.length_append, List.map_append]
        exact h1) h2 h4

/-- The block of the call's own numbers is none of another type. -/
theorem OwnS.apart {e t : TypeId} {k : IntKind} {w : World} {base g : Nat} {v : Value} {xs : List Int} {cs : Array Value} (h : OwnS e k w base v xs) (hb : Blk w g t cs) (hne : t ≠ e) : some g ≠ v.ownBlock := by
  rcases h.2 with ⟨rfl, _⟩ | ⟨g', cap, cur, rfl, _, hg, _⟩
  · simp [Value.ownBlock]
  · intro he
    simp [Value.ownBlock] at he
    subst he
    have hb' : w.heap[g]? = some (.cells cs t (0, 0)) := hb
    rw [hb'] at hg
    simp only [Option.some.injEq, Obj.cells.injEq] at hg
    exact hne hg.2.1

theorem grownBy_trans {a b c : World} {r s : Option Nat} (h : a.grownBy b r) (k : b.grownBy c s) (hs : s = r ∨ ∀ j, s = some j → a.heap.size ≤ j) : a.grownBy c r :=
  ⟨k.os.trans h.os, k.tape.trans h.tape, k.output.trans h.output, Nat.le_trans h.size k.size, fun i hi hr => (k.block i (Nat.lt_of_lt_of_le hi h.size) (by
    rcases hs with rfl | hs
    · exact hr
    · intro he
      have := hs i he.symm
      omega)).trans (h.block i hi hr)⟩

theorem grownBy_up {a b : World} {r : Option Nat} (h : Up a b) : a.grownBy b r := ⟨h.below.os, h.below.tape, h.below.output, h.size, fun _ hk _ => h.block hk⟩
theorem seq_new_at {k : IntKind} {w : World} {g : Nat} {x : Int} {t : TypeId} (hg : w.heap.size = g) : SeqAt k (w.alloc (.cells #[.int k x] t)) (.slice (some ⟨g, 0, none⟩) 1 1) [x] := by
  subst hg
  exact seq_new w x t
end Go.Sp
