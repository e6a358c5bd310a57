/- Package epoch: valid, twice, message. Package epoch: message, Verify. Package epoch: Verify. Package epoch: Sign. slices.Equal of equal records. -/
import Derived.Test.YtoaomjdpiealfaaDoorMB19
import Derived.Test.YtoaomjdpiealfaaDoorMB22
import Derived.Test.YtoaomjdpiealfaaDoorMB9
import Derived.Test.YtoaomjdpiealfaaDoorMB16
import Derived.Test.YtoaomjdpiealfaaDoorMB21
import Derived.Test.YtoaomjdpiealfaaDoorMB24
import Derived.Test.YtoaomjdpiealfaaDoorMB25
import Derived.Test.YtoaomjdpiealfaaDoorMB18
namespace Go.Proofs.YtoaomjdpiealfaaDoor
open Go.RowKit Go.Sp
set_option maxHeartbeats 4000000
set_option maxRecDepth 20000

/-- Is the record valid? -/
def recR (P Q G A B C : Int) (r : Rec) : Bool := recB P Q G A B C r.kd r.nr r.co r.iv r.ni r.ka r.kb r.kc r.st r.un r.ac
theorem valid1_any (P Q G A B C : Int) (r : Rec) (g : Nat) (w : World) (hP : -9223372036854775808 ≤ P) (hQ : Q ≤ 9223372036854775807) (hT : Tab w) (hb : BasAt w g P Q G A B C) :
    Calls Tryd.prog 61 (#[r.val] ++ #[.pointer (some ⟨g, 0, none⟩)]) w fun e w' => e = .returned (.bool (!recR P Q G A B C r)) ∧ Up w w' := by
  obtain ⟨kd, nr, co, iv, ni, ka, kb, kc, st, un, ac⟩ := r
  have M1 := hid (fun w' (hU : Up w w') => eValid_any P Q G A B C kd nr co iv ni ka kb kc st un ac w' hP hQ (hT.up hU))
  have HB := hid hb
  unfold recR
  generalize recB P Q G A B C kd nr co iv ni ka kb kc st un ac = T at *
  unfold Rec.val epo epoA
  unfold epo epoA at M1
  dsimp only
  rw [show #[Value.agg #[.int .i64 kd, .int .i64 nr, .int .i64 co, .int .i64 iv, .int .i64 ni, .int .i64 ka, .int .i64 kb, .int .i64 kc, .int .i64 st, .int .i64 un, .int .i64 ac]] ++ #[.pointer (some ⟨g, 0, none⟩)] = #[.agg #[.int .i64 kd, .int .i64 nr, .int .i64 co, .int .i64 iv, .int .i64 ni, .int .i64 ka, .int .i64 kb, .int .i64 kc, .int .i64 st, .int .i64 un, .int .i64 ac], .pointer (some ⟨g, 0, none⟩)] from rfl]
  obtain ⟨⟨c0, c1, c2⟩, c3, c4, c5⟩ := hb
  have hl := cell_lt c0
  clear hT HB
  go_enter Tryd.func61, Tryd.ntmps61
  go_wp2_with fail
  refine (M1.out _ ((Up.refl w).alloc _)).mono ?_
  rintro e w1 ⟨rfl, hU1⟩
  have HU1 := hid (((Up.refl w).alloc _).trans hU1)
  clear hU1 c0 c1 c2 c3 c4 c5
  go_wp2
  go_ret
  exact ⟨rfl, HU1.out⟩

/-- Are all records valid? -/
def allR (P Q G A B C : Int) (l : List Rec) : Bool := !l.any fun r => !recR P Q G A B C r
theorem evalid_any (P Q G A B C : Int) (v : Value) (l : List Rec) (w : World) (hP : -9223372036854775808 ≤ P) (hQ : Q ≤ 9223372036854775807) (hT : Tab w) (hv : RecsAt w v l) :
    Calls Tryd.prog 39 #[bas P Q G A B C, v] w fun e w' => e = .returned (.bool (allR P Q G A B C l)) ∧ Up w w' := by
  have HT := hid hT
  have HV := hid hv
  obtain ⟨_, a, cp, rfl, _⟩ := hv
  obtain ⟨o, ho⟩ : ∃ o, w.heap.size = o := ⟨_, rfl⟩
  have HO := hid ho
  obtain ⟨T, hTT⟩ : ∃ T, (l.any fun r => !recR P Q G A B C r) = T := ⟨_, rfl⟩
  have HTT := hid hTT
  unfold allR
  rw [hTT]
  clear hT ho hTT
  go_enter Tryd.func39, Tryd.ntmps39
  go_wp2_with fail
  have hA := nums_six (w := w) (t := 25) (x := P) (y := Q) (z := G) (a := A) (b := B) (c := C) HO.out
  have hU0 := (Up.refl w).alloc (.cells #[.int .i64 P, .int .i64 Q, .int .i64 G, .int .i64 A, .int .i64 B, .int .i64 C] 25)
  rw [HO.out]
  generalize w.alloc (.cells #[.int .i64 P, .int .i64 Q, .int .i64 G, .int .i64 A, .int .i64 B, .int .i64 C] 25) = w0 at *
  refine (ContainsFuncK 61 #[.pointer (some ⟨o, 0, none⟩)] (fun r => !recR P Q G A B C r) _ l w0 (HV.out.up hU0) (fun _ _ => by kernel_rfl) (fun x _ w' hU' => valid1_any P Q G A B C x o w' hP hQ (HT.out.up (hU0.trans hU')) (hA.up hU'))).mono ?_
  rintro e w1 ⟨rfl, hU1⟩
  rw [HTT.out]
  have HU1 := hid (hU0.trans hU1)
  clear hU1 hU0 hA
  go_wp2
  go_ret
  exact ⟨rfl, HU1.out⟩

/-- The three numbers of a record. -/
def tri (r : Rec) : Tri := (r.kd, r.nr, r.co)
/-- The numbers that were seen ahead of the i-th record, the last first. -/
def seenL (l : List Rec) (i : Nat) : List Tri := ((l.take i).map tri).reverse
def twB (l : List Rec) : Bool := (List.range l.length).any fun i => (seenL l i).contains (tri (l.getD i rec0))
theorem seenL_succ {l : List Rec} {i : Nat} (h : i < l.length) : seenL l (i + 1) = tri (l.getD i rec0) :: seenL l i := by
  unfold seenL
  rw [List.take_succ_eq_append_getElem h, List.map_append, List.reverse_append]
  simp [h]
theorem twB_true {l : List Rec} {i : Nat} (hi : i < l.length) (h : (seenL l i).contains (tri (l.getD i rec0)) = true) : twB l = true := by
  unfold twB
  rw [List.any_eq_true]
  exact ⟨i, List.mem_range.2 hi, h⟩
theorem twB_false {l : List Rec} (h : ∀ i, i < l.length → (seenL l i).contains (tri (l.getD i rec0)) = false) : twB l = false := by
  unfold twB
  rw [List.any_eq_false]
  intro i hi
  rw [h i (List.mem_range.1 hi)]
  simp

theorem SetAt.grownUp {w0 w w' : World} {b n : Nat} {S : List Tri} (hU : Up w0 w) (hb : w0.heap.size ≤ b) (hg : w.grownBy w' (some b)) (_h : SetAt w b n S) : Up w0 w' := up_grown hU hg (fun k hk => by injection hk; omega)

theorem twice_any (v : Value) (l : List Rec) (w : World) (hv : RecsAt w v l) (hl : l.length ≤ 1000) (hI : ∀ r ∈ l, I64 r.kd ∧ I64 r.nr ∧ I64 r.co) :
    Calls Tryd.prog 41 #[v] w fun e w' => e = .returned (.bool (twB l)) ∧ Up w w' := by
  have HV := hid hv
  have HI := hid hI
  have HT := hid (fun (i : Nat) (hi : i < l.length) => (twB_true hi : (seenL l i).contains (tri (l.getD i rec0)) = true → twB l = true))
  have HF := hid (twB_false (l := l))
  have HN := hid (fun (i : Nat) (hi : i < l.length) => seenL_succ hi)
  obtain ⟨T, hT⟩ : ∃ T, twB l = T := ⟨_, rfl⟩
  rw [hT] at HT HF ⊢
  obtain ⟨_, a, cp, rfl, _⟩ := hv
  obtain ⟨m, hm⟩ : ∃ m, l.length = m := ⟨_, rfl⟩
  have HM := hid hm
  rw [hm] at HV hl HT HF HN ⊢
  clear hI hm hT
  obtain ⟨S, hS⟩ : ∃ S : Nat → List Tri, seenL l = S := ⟨_, rfl⟩
  have hS0 : S 0 = [] := by rw [← hS]; rfl
  rw [hS] at HT HF HN
  clear hS
  have hmm := @run_makeMap Tryd.prog
  obtain ⟨o, ho⟩ : ∃ o, w.heap.size = o := ⟨_, rfl⟩
  have HO := hid ho
  clear ho
  go_enter Tryd.func41, Tryd.ntmps41
  go_wp2_with fail
  clear hmm
  have HS0 := hid (SetAt.made w)
  have HU0 := hid ((Up.refl w).alloc (.map #[] 0))
  rw [HO.out] at HS0
  rw [HO.out]
  go_loopw [10] (fun vi wr => ∃ i : Nat, i ≤ m ∧ vi = .int .i64 i ∧ Hid (∀ j, j < i → (S j).contains (tri (l.getD j rec0)) = false) ∧ Hid (SetAt wr o i (S i)) ∧ Hid (Up w wr)) (fun vi _ => m - (intOf vi).toNat)
  case atStart => exact ⟨0, by omega, rfl, hid (fun j hj => by omega), hid (hS0.symm ▸ HS0.out), HU0⟩
  case round =>
    clear HS0 HU0
    obtain ⟨i, hi, rfl, HA, HS, HU⟩ := hrel
    by_cases hlt : i < m
    · have hlx : i < l.length := by rw [HM.out]; exact hlt
      obtain ⟨g, off, rfl, hx2⟩ := recs_cell HV.out HU.out hlx
      have HIx := hid (HI.out _ (recs_mem hlx))
      have HNx := hid (HN.out i hlt)
      have HTx := hid (HT.out i hlt)
      have HAx := hid (fun (h : (S i).contains (tri (l.getD i rec0)) = false) => (fun j (hj : j < i + 1) => by
        by_cases he : j < i
        · exact HA.out j he
        · obtain rfl : j = i := by omega
          exact h : ∀ j, j < i + 1 → (S j).contains (tri (l.getD j rec0)) = false))
      clear hlx
      generalize l.getD i rec0 = x at HIx HNx HTx HAx hx2
      obtain ⟨q0, q1, q2, q3, q4, q5, q6, q7, q8, q9, q10⟩ := hx2
      obtain ⟨kd, nr, co, iv, ni, ka, kb, kc, st, un, ac⟩ := x
      dsimp only at q0 q1 q2 q3 q4 q5 q6 q7 q8 q9 q10
      obtain ⟨i1, i2, i3⟩ := HIx.out
      dsimp only at i1 i2 i3
      have I1 := hid i1
      have I2 := hid i2
      have I3 := hid i3
      have ht3 : tri ⟨kd, nr, co, iv, ni, ka, kb, kc, st, un, ac⟩ = (kd, nr, co) := rfl
      rw [ht3] at HNx HTx HAx
      have hgl : g < wr.heap.size := cell_lt q0
      have hol : o < wr.heap.size := HS.out.lt
      obtain ⟨W2, hW2⟩ : ∃ W2, (wr.alloc (.cells #[.int .i64 kd, .int .i64 nr, .int .i64 co, .int .i64 iv, .int .i64 ni, .int .i64 ka, .int .i64 kb, .int .i64 kc, .int .i64 st, .int .i64 un, .int .i64 ac] 31)).alloc (.cells #[.int .i64 kd, .int .i64 nr, .int .i64 co] 63) = W2 := ⟨_, rfl⟩
      have HW2 := hid hW2
      have hUp : Up wr W2 := by rw [← hW2]; exact ((Up.refl wr).alloc _).alloc _
      have HS2 := hid (HS.out.up hUp)
      have HU2 := hid (HU.out.trans hUp)
      have HB2 : Hid (Blk W2 (wr.heap.size + 1) 63 #[.int .i64 kd, .int .i64 nr, .int .i64 co]) := hid (by rw [← hW2]; exact Blk.new (by simp) rfl)
      have k0 := HB2.out.val (i := 0) rfl
      have k1 := HB2.out.val (i := 1) rfl
      have k2 := HB2.out.val (i := 2) rfl
      clear hW2 hUp i1 i2 i3 HIx
      by_cases hc : (S i).contains (kd, nr, co) = true
      · have hT : T = true := HTx.out hc
        subst hT
        generalize (S i) = Si at *
        go_wp2_with (at_lookup; rw [HW2.out]; refine wp_lookS rfl _ _ rfl o i Si rfl HS2.out kd nr co I1.out I2.out I3.out rfl ?_; rw [hc])
        go_ret
        exact ⟨rfl, HU2.out⟩
      · have hc' : (S i).contains (kd, nr, co) = false := by simpa using hc
        have HA2 := hid (HAx.out hc')
        have HSn : Hid (S (i + 1) = (kd, nr, co) :: S i) := HNx
        clear hc
        go_wp2_with (first
          | (at_lookup; rw [HW2.out]; refine wp_lookS rfl _ _ rfl o i (S i) rfl HS2.out kd nr co I1.out I2.out I3.out rfl ?_; rw [hc'])
          | (at_mapUpdate; refine wp_putS rfl _ _ _ rfl o i (S i) rfl HS2.out (by omega) kd nr co I1.out I2.out I3.out rfl rfl ?_; intro w3 hS3 hg3; rw [← HSn.out] at hS3))
        have HS3 := hid hS3
        have HU3 := hid (SetAt.grownUp HU2.out (by have := HO.out; omega) hg3 HS2.out)
        clear hS3 hg3 k0 k1 k2 q0 q1 q2 q3 q4 q5 q6 q7 q8 q9 q10
        go_roundw
        case rel => exact ⟨i + 1, by omega, by go_num, HA2, HS3, HU3⟩
        case measure => simp [intOf]; omega
    · obtain rfl : i = m := by omega
      have hT : T = false := HF.out (fun j hj => HA.out j hj)
      subst hT
      go_wp2
      go_ret
      exact ⟨rfl, HU.out⟩
end Go.Proofs.YtoaomjdpiealfaaDoor
namespace Go.Proofs.YtoaomjdpiealfaaDoor
open Go.RowKit Go.Sp
set_option maxHeartbeats 4000000
set_option maxRecDepth 20000

/-- The length and the room of a slice. -/
def CapOk (v : Value) (n : Nat) : Prop := ∃ a cap, v = .slice a n cap ∧ n ≤ cap ∧ cap ≤ 9223372036854775807 ∧ (a = none → cap = 0)
theorem ownQ_cap {e : TypeId} {w : World} {base : Nat} {v : Value} {qs : List Quad} (h : OwnQ e w base v qs) : CapOk v qs.length := by
  rcases h.2 with ⟨hv, hn⟩ | ⟨g, cap, cur, rfl, hb, hg, hn, hm, _⟩
  · exact ⟨none, 0, by rw [hv, hn], by omega, by omega, fun _ => rfl⟩
  · exact ⟨_, cap, rfl, hn, by unfold maxLen at hm; omega, fun h => by cases h⟩
theorem IntItems.itm {w : World} {v : Value} {xs : List Int} (h : IntItems w v xs) (hc : CapOk v xs.length) (hl : xs.length ≤ 1000) : ItmAt w 1 3 0 nilS v (encInts xs) := by
  obtain ⟨a, cap, rfl, h1, h2, h3⟩ := hc
  refine itm_list ⟨a, cap, by rw [List.length_map], by rw [List.length_map]; exact h1, h2, h3, fun i hi => ?_⟩ (by rw [List.length_map]; exact hl)
  rw [List.length_map] at hi
  obtain ⟨b, rfl, hcell⟩ := ints_items h (Up.refl w) hi
  refine ⟨b, 0, 1, xs.getD i 0, nilS, nilS, rfl, by rw [Nat.zero_add]; exact hcell, ?_⟩
  rw [show (xs.map encInt).getD i [] = encInt (xs.getD i 0) by simp [hi]]
  exact itm_int w _ 0
theorem IntItems.grown {w w' : World} {v : Value} {xs : List Int} {row : Option Nat} (h : IntItems w v xs) (hg : w.grownBy w' row) (hne : xs ≠ [] → ∀ b n c, v = .slice (some ⟨b, 0, none⟩) n c → some b ≠ row) : IntItems w' v xs := by
  obtain ⟨a, cap, rfl, h1⟩ := h
  refine ⟨a, cap, rfl, fun hx => ?_⟩
  obtain ⟨b, rfl, hc⟩ := h1 hx
  have hb := hne hx b _ _ rfl
  refine ⟨b, rfl, fun i hi => ?_⟩
  obtain ⟨c0, c1, c2, c3⟩ := hc i hi
  have hk := hg.block b (cell_in c0) hb
  exact ⟨by rw [World.cell?_of_block (w := w) hk]; exact c0, by rw [World.cell?_of_block (w := w) hk]; exact c1, by rw [World.cell?_of_block (w := w) hk]; exact c2, by rw [World.cell?_of_block (w := w) hk]; exact c3⟩
/-- A list's items are those of integers do not lie in a list of lists. -/
theorem ints_apart {e : TypeId} {w : World} {base : Nat} {u v : Value} {qs : List Quad} {xs : List Int} (h : IntItems w v xs) (ho : OwnQ e w base u qs) (hk : ∀ q ∈ qs, q.k = 3) (hq0 : qs ≠ []) (hx : xs ≠ []) (b n c : Nat) (hv : v = .slice (some ⟨b, 0, none⟩) n c) : some b ≠ u.ownBlock := by
  intro he
  obtain ⟨a, cap, hv2, h1⟩ := h
  obtain ⟨b', ha, hc⟩ := h1 hx
  subst hv
  injection hv2 with e1 e2 e3
  rw [← e1] at ha
  injection ha with ha
  injection ha with ha
  subst ha
  have h0 := (hc 0 (by cases xs with | nil => exact absurd rfl hx | cons x xs => simp)).1
  have hh := ho
  rcases ho.2 with ⟨rfl, _⟩ | ⟨g, cap', cur, rfl, _, hg, _⟩
  · simp [Value.ownBlock] at he
  · simp [Value.ownBlock] at he
    subst he
    cases qs with
    | nil => exact absurd rfl hq0
    | cons q qs =>
      have hq := World.ownsRow.cellAt hh 0 (by simp)
      rw [show 0 * 4 = 0 from rfl, hq] at h0
      simp [Quad.cells] at h0
      have := hk q (by simp)
      omega
/-- Items that are the records of a list. -/
def LstAt (w : World) (qs : List Quad) (l : List Rec) : Prop := qs.length = l.length ∧ ∀ j (h : j < qs.length), ∃ v, qs[j] = ⟨3, 0, nilS, v⟩ ∧ IntItems w v (l.getD j rec0).nums ∧ CapOk v 11
theorem LstAt.up {w w' : World} {qs : List Quad} {l : List Rec} (h : LstAt w qs l) (hU : Up w w') : LstAt w' qs l := by
  refine ⟨h.1, fun j hj => ?_⟩
  obtain ⟨v, h1, h2, h3⟩ := h.2 j hj
  exact ⟨v, h1, h2.up hU, h3⟩
theorem LstAt.three {w : World} {qs : List Quad} {l : List Rec} (h : LstAt w qs l) : ∀ q ∈ qs, q.k = 3 := by
  intro q hq
  obtain ⟨j, hj, rfl⟩ := List.getElem_of_mem hq
  obtain ⟨v, h1, _⟩ := h.2 j hj
  rw [h1]
theorem LstAt.grown {e : TypeId} {w w' : World} {base : Nat} {u : Value} {qs : List Quad} {l : List Rec} (h : LstAt w qs l) (ho : OwnQ e w base u qs) (hg : w.grownBy w' u.ownBlock) : LstAt w' qs l := by
  refine ⟨h.1, fun j hj => ?_⟩
  obtain ⟨v, h1, h2, h3⟩ := h.2 j hj
  exact ⟨v, h1, h2.grown hg (fun hx b n c hv => ints_apart h2 ho h.three (by rintro rfl; simp at hj) hx b n c hv), h3⟩
theorem ownQ_lt {e : TypeId} {w : World} {base b : Nat} {u : Value} {qs : List Quad} (ho : OwnQ e w base u qs) (hb : u.ownBlock = some b) : b < w.heap.size := by
  rcases ho.2 with ⟨rfl, _⟩ | ⟨g, cap', cur, rfl, _, hg, _⟩
  · cases hb
  · simp [Value.ownBlock] at hb
    subst hb
    exact (Array.getElem?_eq_some_iff.1 hg).1
theorem ownQ_ge {e : TypeId} {w : World} {base : Nat} {u : Value} {qs : List Quad} (ho : OwnQ e w base u qs) {b n c : Nat} (hv : u = .slice (some ⟨b, 0, none⟩) n c) : base ≤ b := ho.block b (by rw [hv]; rfl)
/-- A list that was made behind another does not lie in it. -/
theorem newer {e e' : TypeId} {w0 w : World} {base b1 : Nat} {u v : Value} {qs qs' : List Quad} (ho : OwnQ e w0 base u qs) (hn : OwnQ e' w b1 v qs') (hb : w0.heap.size ≤ b1) {b n c : Nat} (hv : v = .slice (some ⟨b, 0, none⟩) n c) : some b ≠ u.ownBlock := by
  intro he
  have h1 := ownQ_lt ho he.symm
  have h2 := ownQ_ge hn hv
  omega
theorem LstAt.app {w : World} {qs : List Quad} {l : List Rec} {i : Nat} {v : Value} (h : LstAt w qs (l.take i)) (hi : i < l.length) (hv : IntItems w v (l.getD i rec0).nums) (hc : CapOk v 11) : LstAt w (qs ++ [⟨3, 0, nilS, v⟩]) (l.take (i + 1)) := by
  have hq : qs.length = i := by rw [h.1]; simp; omega
  refine ⟨by rw [List.length_append, hq]; simp; omega, fun j hj => ?_⟩
  rw [List.length_append, List.length_singleton] at hj
  by_cases hj2 : j < qs.length
  · obtain ⟨u, h1, h2, h3⟩ := h.2 j hj2
    refine ⟨u, by rw [List.getElem_append_left hj2]; exact h1, ?_, h3⟩
    rw [show (l.take (i + 1)).getD j rec0 = (l.take i).getD j rec0 by (have a1 : j < i := by omega); (have a2 : j < i + 1 := by omega); simp only [List.getD_eq_getElem?_getD, List.getElem?_take, if_pos a1, if_pos a2]]
    exact h2
  · obtain rfl : j = i := by omega
    refine ⟨v, by rw [List.getElem_append_right (by omega)]; simp, ?_, hc⟩
    rw [show (l.take (j + 1)).getD j rec0 = l.getD j rec0 by simp [List.getD]]
    exact hv
theorem LstAt.quad {w : World} {qs : List Quad} {l : List Rec} (h : LstAt w qs l) : QuadAt w 1 qs (l.map fun r => encInts r.nums) := by
  refine ⟨by rw [List.length_map]; exact h.1, fun j hj => ?_⟩
  obtain ⟨v, h1, h2, h3⟩ := h.2 j hj
  have hjl : j < l.length := by rw [← h.1]; exact hj
  rw [h1, show (l.map fun r => encInts r.nums).getD j [] = encInts (l.getD j rec0).nums by simp [hjl]]
  exact h2.itm h3 (by simp [Rec.nums])
/-- The message of a list of records. -/
def msgR (l : List Rec) : List Int := encList (l.map fun r => encInts r.nums)
theorem msgR_byt (l : List Rec) : ∀ y ∈ msgR l, 0 ≤ y ∧ y ≤ 255 := by
  refine encList_byt fun e he => ?_
  obtain ⟨r, _, rfl⟩ := List.mem_map.1 he
  exact encInts_byt _
theorem msgR_length (l : List Rec) : (msgR l).length = l.length * 104 + 5 := by
  rw [msgR, encList_length]
  congr 1
  induction l with
  | nil => rfl
  | cons x l ih => rw [List.map_cons, List.flatten_cons, List.length_append, ih, encInts_length, List.length_cons]; simp [Rec.nums]; omega
theorem lst_itm {w : World} {base : Nat} {v : Value} {qs : List Quad} {l : List Rec} (ho : OwnQ 38 w base v qs) (h : LstAt w qs l) (hl : l.length ≤ 1000) : ItmAt w 2 3 0 nilS v (msgR l) :=
  itm_list (ho.row h.quad) (by rw [List.length_map]; exact hl)
theorem nilS_own : (nilS : Value).ownBlock = none := rfl

/-- What the loop's region reads. -/
def MsgS (L g i : Nat) (ad : Option Addr) (cp : Nat) (cs : Array Value) (w0 w : World) : Prop := Blk w L 38 #[.int .i64 3, .int .i64 0, nilS, .slice ad i cp] ∧ Blk w g 31 cs ∧ Up w0 w
theorem MsgS.up {L g i : Nat} {ad : Option Addr} {cp : Nat} {cs : Array Value} {w0 w w' : World} (h : MsgS L g i ad cp cs w0 w) (hU : Up w w') : MsgS L g i ad cp cs w0 w' := ⟨h.1.up hU, h.2.1.up hU, h.2.2.trans hU⟩
/-- What message returns. -/
def MsgOut (m : List Int) (w : World) (e : Ending) (w' : World) : Prop :=
  ∃ v, e = .returned (.tuple #[v, .bool (decide (m.length ≤ 16384))]) ∧ SeqAt .u8 w' v (if m.length ≤ 16384 then m else []) ∧ Up w w'
theorem LstAt.set {w : World} {o : Nat} {t : TypeId} {cs : Array Value} {qs : List Quad} {l : List Rec} (h : LstAt w qs l) (hb : Blk w o t cs) (h0 : cs[0]? = some (.int .i64 3)) (x : Value) : LstAt (w.setCell ⟨o, 3, none⟩ x) qs l := by
  refine ⟨h.1, fun j hj => ?_⟩
  obtain ⟨v, h1, ⟨a, cap, rfl, h2⟩, h3⟩ := h.2 j hj
  refine ⟨_, h1, ⟨a, cap, rfl, fun hx => ?_⟩, h3⟩
  obtain ⟨b, rfl, hc⟩ := h2 hx
  have hne : b ≠ o := by
    rintro rfl
    have k0 := (hc 0 (by simp [Rec.nums])).1
    have k1 := hb.val h0
    rw [show 0 * 4 = 0 from rfl, k1] at k0
    simp at k0
  have hk : (w.setCell ⟨o, 3, none⟩ x).heap[b]? = w.heap[b]? := Below.heap_setCell w ⟨o, 3, none⟩ x b hne
  refine ⟨b, rfl, fun i hi => ?_⟩
  obtain ⟨c0, c1, c2, c3⟩ := hc i hi
  exact ⟨by rw [World.cell?_of_block (w := w) hk]; exact c0, by rw [World.cell?_of_block (w := w) hk]; exact c1, by rw [World.cell?_of_block (w := w) hk]; exact c2, by rw [World.cell?_of_block (w := w) hk]; exact c3⟩
theorem ownQ_apart {e t : TypeId} {w : World} {base g : Nat} {v : Value} {qs : List Quad} {cs : Array Value} (h : OwnQ e w base v qs) (hb : Blk w g t cs) (hne : t ≠ e) : some g ≠ v.ownBlock := by
  rcases h.2 with ⟨rfl, _⟩ | ⟨g', cap, cur, rfl, _, hg, _⟩
  · simp [Value.ownBlock]
  · intro he
    simp [Value.ownBlock] at he
    subst he
    have hb' : w.heap[g]? = some (.cells cs t (0, 0)) := hb
    rw [hb'] at hg
    simp only [Option.some.injEq, Obj.cells.injEq] at hg
    exact hne hg.2.1

theorem message_any (v : Value) (l : List Rec) (w : World) (hv : RecsAt w v l) (hl : l.length ≤ 1000) :
    Calls Tryd.prog 42 #[v] w (MsgOut (msgR l) w) := by
  have HV := hid hv
  have HLl := hid hl
  have N1 := hid (fun (x : Rec) w' => eItem_ok x.kd x.nr x.co x.iv x.ni x.ka x.kb x.kc x.st x.un x.ac w')
  obtain ⟨_, a, cpv, rfl, _⟩ := hv
  obtain ⟨m, hm⟩ : ∃ m, l.length = m := ⟨_, rfl⟩
  have HM := hid hm
  rw [hm] at HV hl ⊢
  obtain ⟨o, ho⟩ : ∃ o, w.heap.size = o := ⟨_, rfl⟩
  have HO := hid ho
  obtain ⟨B, hB⟩ : ∃ B, o + 1 = B := ⟨_, rfl⟩
  have HBB := hid hB
  clear hm ho hB
  go_enter Tryd.func42, Tryd.ntmps42
  go_wp2_with fail
  have HL0 : Hid (Blk (w.alloc (.cells #[.int .i64 3, .int .i64 0, nilS, nilS] 38)) o 38 #[.int .i64 3, .int .i64 0, nilS, nilS]) := hid (Blk.new HO.out rfl)
  have HU0 : Hid (Up w (w.alloc (.cells #[.int .i64 3, .int .i64 0, nilS, nilS] 38))) := hid ((Up.refl w).alloc _)
  rw [HO.out]
  rw [show w.alloc (.cells #[.int .i64 3, .int .i64 0, .slice none 0 0, .slice none 0 0] 38) = w.alloc (.cells #[.int .i64 3, .int .i64 0, nilS, nilS] 38) from rfl]
  generalize w.alloc (.cells #[.int .i64 3, .int .i64 0, nilS, nilS] 38) = w0 at *
  go_loopw [12] (fun vi wr => ∃ (i : Nat) (ad : Option Addr) (cp : Nat) (qs : List Quad), i ≤ m ∧ vi = .int .i64 i ∧ Hid (Blk wr o 38 #[.int .i64 3, .int .i64 0, nilS, .slice ad i cp]) ∧ Hid (qs.length = i) ∧ Hid (OwnQ 38 wr B (.slice ad i cp) qs) ∧ Hid (LstAt wr qs (l.take i)) ∧ Hid (Up w wr)) (fun vi _ => m - (intOf vi).toNat)
  case atStart => exact ⟨0, none, 0, [], by omega, rfl, HL0, hid rfl, hid ownQ_none, hid ⟨rfl, fun j hj => by simp at hj⟩, HU0⟩
  case round =>
    clear HL0 HU0
    obtain ⟨i, ad, cp, qs, hi, rfl, HL, HLn, HQ, HLs, HU⟩ := hrel
    have lL : o < wr.heap.size := HL.out.lt
    have hlo2 : o < B := by have := HBB.out; omega
    have hoB : B ≤ o + 1 := by have := HBB.out; omega
    have hwo : w.heap.size ≤ o := by have := HO.out; omega
    by_cases hlt : i < m
    · have hlx : i < l.length := by rw [HM.out]; exact hlt
      obtain ⟨g, off, rfl, hx2⟩ := recs_cell HV.out HU.out hlx
      have M1 := hid (fun w' => N1.out (l.getD i rec0) w')
      have HAp := hid (fun (w' : World) (qs' : List Quad) (v' : Value) (h : LstAt w' qs' (l.take i)) (hv : IntItems w' v' (l.getD i rec0).nums) (hc : CapOk v' 11) => h.app hlx hv hc)
      clear hlx
      generalize l.getD i rec0 = x at *
      obtain ⟨q0, q1, q2, q3, q4, q5, q6, q7, q8, q9, q10⟩ := hx2
      obtain ⟨kd, nr, co, iv, ni, ka, kb, kc, st, un, ac⟩ := x
      dsimp only at q0 q1 q2 q3 q4 q5 q6 q7 q8 q9 q10 M1
      have hnums : (⟨kd, nr, co, iv, ni, ka, kb, kc, st, un, ac⟩ : Rec).nums = [kd, nr, co, iv, ni, ka, kb, kc, st, un, ac] := rfl
      rw [hnums] at HAp
      have hx11 : [kd, nr, co, iv, ni, ka, kb, kc, st, un, ac].length = 11 := rfl
      generalize [kd, nr, co, iv, ni, ka, kb, kc, st, un, ac] = xs at *
      unfold epo epoA at M1
      have hgl : g < wr.heap.size := cell_lt q0
      obtain ⟨gx, hgx⟩ : ∃ gx, wr.heap.size = gx := ⟨_, rfl⟩
      obtain ⟨w1, hw1⟩ : ∃ w1, wr.alloc (.cells #[.int .i64 kd, .int .i64 nr, .int .i64 co, .int .i64 iv, .int .i64 ni, .int .i64 ka, .int .i64 kb, .int .i64 kc, .int .i64 st, .int .i64 un, .int .i64 ac] 31) = w1 := ⟨_, rfl⟩
      have hup1 : Up wr w1 := by rw [← hw1]; exact (Up.refl wr).alloc _
      have HB : Hid (MsgS o gx i ad cp #[.int .i64 kd, .int .i64 nr, .int .i64 co, .int .i64 iv, .int .i64 ni, .int .i64 ka, .int .i64 kb, .int .i64 kc, .int .i64 st, .int .i64 un, .int .i64 ac] w w1) := hid ⟨HL.out.up hup1, by rw [← hw1]; exact Blk.new hgx rfl, HU.out.trans hup1⟩
      have HQ := hid (HQ.out.up hup1)
      have HLs := hid (HLs.out.up hup1)
      have HW1 := hid hw1
      have HGx := hid hgx
      clear hup1 hw1 hgx
      go_wp2_with fail
      try rw [HGx.out]
      rw [HW1.out]
      clear HW1 HGx q0 q1 q2 q3 q4 q5 q6 q7 q8 q9 q10 hgl HU HL
      refine region_E (MsgS o gx i ad cp #[.int .i64 kd, .int .i64 nr, .int .i64 co, .int .i64 iv, .int .i64 ni, .int .i64 ka, .int .i64 kb, .int .i64 kc, .int .i64 st, .int .i64 un, .int .i64 ac] w) 7 (by kernel_rfl) (HB.out.up (Up.refl _).drew) fun hS => ?_
      have hQ0 := HQ.out.up (Up.refl w1).drew
      have hL0 := HLs.out.up (Up.refl w1).drew
      generalize w1.drew = u0 at *
      refine anyE_take (i := 0) (v := ?_) 16 rfl rfl (by kernel_rfl) (by kernel_rfl) (by decide) (fun _ _ _ h => h) (by kernel_rfl) (by kernel_rfl) (.inl ⟨by rfl, fun u hu => ?_⟩) hS ?_
      rotate_left
      · (go_simp; first | done | with_reducible rfl)
      try simp only [Act.put, List.setIfInBounds_toArray, List.set_cons_zero, List.set_cons_succ]
      refine anyE_take (i := 1) (v := ?_) 17 rfl rfl (by kernel_rfl) (by kernel_rfl) (by decide) (fun _ _ _ h => h) (by kernel_rfl) (by kernel_rfl) (.inl ⟨by rfl, fun u hu => ?_⟩) hS ?_
      rotate_left
      · (obtain ⟨u1, u2, u3⟩ := hu; have p3 := u1.val (i := 3) rfl; have t0 := u2.val (i := 0) rfl; have t1 := u2.val (i := 1) rfl; have t2 := u2.val (i := 2) rfl; have t3 := u2.val (i := 3) rfl; have t4 := u2.val (i := 4) rfl; have t5 := u2.val (i := 5) rfl; have t6 := u2.val (i := 6) rfl; have t7 := u2.val (i := 7) rfl; have t8 := u2.val (i := 8) rfl; have t9 := u2.val (i := 9) rfl; have t10 := u2.val (i := 10) rfl; go_simp; first | done | with_reducible rfl)
      try simp only [Act.put, List.setIfInBounds_toArray, List.set_cons_zero, List.set_cons_succ]
      refine anyE_take (i := 2) (v := ?_) 18 rfl rfl (by kernel_rfl) (by kernel_rfl) (by decide) (fun _ _ _ h => h) (by kernel_rfl) (by kernel_rfl) (.inl ⟨by rfl, fun u hu => ?_⟩) hS ?_
      rotate_left
      · (obtain ⟨u1, u2, u3⟩ := hu; have p3 := u1.val (i := 3) rfl; have t0 := u2.val (i := 0) rfl; have t1 := u2.val (i := 1) rfl; have t2 := u2.val (i := 2) rfl; have t3 := u2.val (i := 3) rfl; have t4 := u2.val (i := 4) rfl; have t5 := u2.val (i := 5) rfl; have t6 := u2.val (i := 6) rfl; have t7 := u2.val (i := 7) rfl; have t8 := u2.val (i := 8) rfl; have t9 := u2.val (i := 9) rfl; have t10 := u2.val (i := 10) rfl; go_simp; first | done | with_reducible rfl)
      try simp only [Act.put, List.setIfInBounds_toArray, List.set_cons_zero, List.set_cons_succ]
      refine anyE_oneG (i := 3) rfl (by kernel_rfl) (by rfl) (fun K hK => ?_)
      go_simp
      refine (M1.out u0).mono ?_
      rintro e u1 ⟨l1, rfl, ⟨base1, hq1, hb1⟩, hup⟩
      try dsimp only
      have hS1 := MsgS.up hS hup
      have hQ1 := hQ0.up hup
      have hL1 := hL0.up hup
      have hnew := fun b n c hv => newer (b := b) (n := n) (c := c) hQ0 hq1 hb1 hv
      have hI1 := OwnQ.ints hq1
      have hC1 := ownQ_cap hq1
      rw [List.length_map, hx11] at hC1
      refine hK.out _ _ (.inr hS1) ?_
      clear hK hS hup hQ0 hL0
      try simp only [Act.put, List.setIfInBounds_toArray, List.set_cons_zero, List.set_cons_succ]
      refine anyE_oneG (i := 4) rfl (by kernel_rfl) (by rfl) (fun K hK => ?_)
      obtain ⟨la, lc, hle⟩ := hq1.shape
      rw [List.length_map, hx11] at hle
      subst hle
      go_simp
      have hup2 := (Up.refl u1).alloc (.cells #[.int .i64 3, .int .i64 0, nilS, .slice la 11 lc] 38)
      have hS2 := MsgS.up hS1 hup2
      refine hK.out _ _ (.inr hS2) ?_
      clear hK
      try simp only [Act.put, List.setIfInBounds_toArray, List.set_cons_zero, List.set_cons_succ]
      have hQ2 := hQ1.up hup2
      have hL2 := hL1.up hup2
      have hI2 := hI1.up hup2
      have hs2 : u1.heap.size ≤ (u1.alloc (.cells #[.int .i64 3, .int .i64 0, nilS, .slice la 11 lc] 38)).heap.size := hup2.size
      have hBu : B ≤ (u1.alloc (.cells #[.int .i64 3, .int .i64 0, nilS, .slice la 11 lc] 38)).heap.size := by have := hS1.1.lt; omega
      refine anyE_oneG (i := 5) rfl (by kernel_rfl) (by rfl) (fun K hK => ?_)
      refine op_appQ infoItm rfl Tryd.underlying36 (by omega) _ _ rfl B rfl hQ2 u1.heap.size 1 (news := [⟨3, 0, nilS, .slice la 11 lc⟩]) rfl (fun j hj => by (obtain rfl : j = 0 := (by simp at hj; omega)); exact itm_new rfl) (fun j hj => by (obtain rfl : j = 0 := (by simp at hj; omega)); exact ⟨rfl, rfl⟩) (by have := HLn.out; simp only [List.length_singleton]; omega) hBu ?_
      intro v5 w5 hO5 hg5
      have hB5 := hQ2.below hg5 hBu
      have hS5 : MsgS o gx i ad cp #[.int .i64 kd, .int .i64 nr, .int .i64 co, .int .i64 iv, .int .i64 ni, .int .i64 ka, .int .i64 kb, .int .i64 kc, .int .i64 st, .int .i64 un, .int .i64 ac] w w5 := ⟨hS2.1.below hB5 (by omega), hS2.2.1.grown hg5 (ownQ_apart hQ2 hS2.2.1 (by decide)), up_below hS2.2.2 hB5 (by omega)⟩
      have hL5 := hL2.grown hQ2 hg5
      have hI5 := hI2.grown hg5 (fun _ b n c hv => hnew b n c hv)
      have hA5 := HAp.out w5 _ _ hL5 hI5 hC1
      obtain ⟨a5, c5, rfl⟩ := hO5.shape
      rw [List.length_append, HLn.out, List.length_singleton] at hO5 ⊢
      change K (Act.put _ (some 21) _) _
      refine hK.out _ _ (.inr hS5) ?_
      clear hK
      try simp only [Act.put, List.setIfInBounds_toArray, List.set_cons_zero, List.set_cons_succ]
      refine anyE_take (i := 6) (v := ?_) 22 rfl rfl (by kernel_rfl) (by kernel_rfl) (by decide) (fun _ _ _ h => h) (by kernel_rfl) (by kernel_rfl) (.inl ⟨by rfl, fun u hu => ?_⟩) hS5 ?_
      rotate_left
      · (go_simp; first | done | with_reducible rfl)
      try simp only [Act.put, List.setIfInBounds_toArray, List.set_cons_zero, List.set_cons_succ]
      have k3 := hS5.1.val (i := 3) rfl
      have y3 := hS5.1.thawed 3
      refine anyE_oneG (i := 7) rfl (by kernel_rfl) (by rfl) (fun K hK => ?_)
      go_simp
      refine hK.out _ _ (.inl rfl) (anyE_done (by kernel_rfl) ?_ _)
      clear hK
      have HL6 : Hid (Blk (w5.setCell ⟨o, 3, none⟩ (.slice a5 (i + 1) c5)) o 38 #[.int .i64 3, .int .i64 0, nilS, .slice a5 (i + 1) c5]) := hid (hS5.1.wrote 3 _)
      have HQ6 := hid (hO5.set (a := ⟨o, 3, none⟩) (show o < B by omega) (.slice a5 (i + 1) c5))
      have HLs6 := hid (LstAt.set hA5 hS5.1 rfl (.slice a5 (i + 1) c5))
      have HU6 := hid (hS5.2.2.setCell (a := ⟨o, 3, none⟩) (show w.heap.size ≤ o by omega) (.slice a5 (i + 1) c5))
      have HLn6 : Hid ((qs ++ [(⟨3, 0, nilS, .slice la 11 lc⟩ : Quad)]).length = i + 1) := hid (by rw [List.length_append, HLn.out]; rfl)
      clear hS1 hS2 hS5 k3 y3 hQ1 hQ2 hL1 hL2 hL5 hI1 hI2 hI5 hA5 hO5 hg5 hB5 hnew hC1 hq1 hs2 hBu HB HQ HLs M1 HAp
      generalize w5.setCell ⟨o, 3, none⟩ (.slice a5 (i + 1) c5) = w6 at *
      go_wp2_with fail
      go_roundw
      case rel => exact ⟨i + 1, a5, c5, _, by omega, by go_num, HL6, HLn6, HQ6, HLs6, HU6⟩
      case measure => simp [intOf]; omega
    · obtain rfl : i = m := by omega
      have HE := hid (fun (w' : World) (hU : Up wr w') => Encode_ok (d := 2) (lst_itm (HQ.out.up hU) (by have := HLs.out.up hU; rw [List.take_of_length_le (by rw [HM.out]; omega)] at this; exact this) (by rw [HM.out]; exact hl)) (by omega))
      have k0 := HL.out.val (i := 0) rfl
      have k1 := HL.out.val (i := 1) rfl
      have k2 := HL.out.val (i := 2) rfl
      have k3 := HL.out.val (i := 3) rfl
      clear HQ HLs HLn N1
      go_wp2_with fail
      refine (HE.out _ (Up.refl _)).mono ?_
      rintro e w2 ⟨v2, rfl, hO2, hU2⟩
      have HU2 := hid (HU.out.trans hU2)
      have HO2 := hid hO2
      clear hU2 k0 k1 k2 k3 HE HL HU
      by_cases hm : (msgR l).length ≤ 16384
      · rw [if_pos hm] at HO2 ⊢
        have hd : decide ((msgR l).length ≤ 16384) = true := by simpa using hm
        have HM5 := hid hm
        have HD5 := hid hd
        clear hm hd hO2
        go_wp2
        go_ret2
        exact ⟨v2, by rw [HD5.out]; rfl, by rw [if_pos HM5.out]; exact HO2.out.seq, HU2.out⟩
      · rw [if_neg hm] at HO2 ⊢
        have hd : decide ((msgR l).length ≤ 16384) = false := by simpa using hm
        have HM5 := hid hm
        have HD5 := hid hd
        clear hm hd hO2
        go_wp2
        go_ret2
        exact ⟨v2, by rw [HD5.out]; rfl, by rw [if_neg HM5.out]; exact HO2.out.seq, HU2.out⟩
end Go.Proofs.YtoaomjdpiealfaaDoor
namespace Go.Proofs.YtoaomjdpiealfaaDoor
open Go.RowKit Go.Sp
set_option maxHeartbeats 4000000
set_option maxRecDepth 20000

/-- Is a list signed by a key? -/
def vfyB (P Q G A B C y : Int) (l : List Rec) (c s : Int) : Bool := bvB P Q G A B C && (allR P Q G A B C l && (!twB l && verS P Q G y (msgR l) c s))
theorem verS_long {P Q G y c s : Int} {m : List Int} (h : ¬ m.length ≤ 16384) : verS P Q G y m c s = false := by
  unfold verS
  rw [show decide (m.length ≤ 16384) = false by simpa using h]
  simp
theorem eVerify_any (P Q G A B C y c s : Int) (v : Value) (l : List Rec) (w : World) (hP : -9223372036854775808 ≤ P) (hQ : Q ≤ 9223372036854775807) (hT : Tab w) (hS : TabS w) (hv : RecsAt w v l) (hl : l.length ≤ 1000) (hI : ∀ r ∈ l, I64 r.kd ∧ I64 r.nr ∧ I64 r.co) :
    Calls Tryd.prog 22 #[bas P Q G A B C, .int .i64 y, .agg #[v, .int .i64 c, .int .i64 s]] w fun e w' => e = .returned (.bool (vfyB P Q G A B C y l c s)) ∧ Up w w' := by
  have M1 := hid (fun w' (hU : Up w w') => bValid_any P Q G A B C w' hP hQ (hT.up hU))
  have M2 := hid (fun w' (hU : Up w w') => evalid_any P Q G A B C v l w' hP hQ (hT.up hU) (hv.up hU))
  have M3 := hid (fun w' (hU : Up w w') => twice_any v l w' (hv.up hU) hl hI)
  have M4 := hid (fun w' (hU : Up w w') => message_any v l w' (hv.up hU) hl)
  have M5 := hid (fun u w' (hU : Up w w') (hu : SeqAt .u8 w' u (msgR l)) => sigVerify_any P Q G y c s u (msgR l) w' hP hQ (hT.up hU) (hS.up hU) hu (msgR_byt l))
  have HL := hid (fun h => verS_long (P := P) (Q := Q) (G := G) (y := y) (c := c) (s := s) (m := msgR l) h)
  obtain ⟨T, hT0⟩ : ∃ T, vfyB P Q G A B C y l c s = T := ⟨_, rfl⟩
  have HB0 := hid hT0.symm
  rw [hT0]
  unfold vfyB at HB0
  generalize bvB P Q G A B C = b1 at *
  generalize allR P Q G A B C l = b2 at *
  generalize twB l = b3 at *
  generalize verS P Q G y (msgR l) c s = b4 at *
  generalize msgR l = ms at *
  obtain ⟨_, a, cp, rfl, _⟩ := hv
  obtain ⟨m, hm⟩ : ∃ m, l.length = m := ⟨_, rfl⟩
  rw [hm] at M2 M3 M4 ⊢
  obtain ⟨o, ho⟩ : ∃ o, w.heap.size = o := ⟨_, rfl⟩
  have HO := hid ho
  obtain ⟨o1, ho1⟩ : ∃ o1, o + 1 = o1 := ⟨_, rfl⟩
  have HO1 := hid ho1
  clear hT hS hI hm ho ho1 hT0
  go_enter Tryd.func22, Tryd.ntmps22
  go_wp2_with fail
  refine (M1.out _ (((Up.refl w).alloc _).alloc _)).mono ?_
  rintro e w1 ⟨rfl, hU1⟩
  have HA1 := hid (((nums_six (w := w) (t := 25) HO.out).up ((Up.refl _).alloc _)).up hU1)
  have HK1 := hid (((Blk.new (g := o1) (t := 50) (cs := #[.slice a m cp, .int .i64 c, .int .i64 s]) (by have := HO.out; have := HO1.out; simp; omega) rfl)).up hU1)
  have HU1 := hid ((((Up.refl w).alloc _).alloc _).trans hU1)
  clear hU1
  rw [HO.out, HO1.out]
  obtain ⟨⟨c0, c1, c2⟩, c3, c4, c5⟩ := HA1.out
  have k0 := HK1.out.val (i := 0) rfl
  have k1 := HK1.out.val (i := 1) rfl
  have k2 := HK1.out.val (i := 2) rfl
  by_cases h : b1 = true
  case neg =>
    have h' : b1 = false := by simpa using h
    have hX : T = false := by rw [HB0.out, h']; rfl
    subst hX
    rw [h']
    clear h h'
    go_wp2
    go_ret
    exact ⟨rfl, HU1.out⟩
  have HB1 : Hid (T = (b2 && (!b3 && b4))) := hid (by rw [HB0.out, h]; rfl)
  have C1 := hid h
  rw [h]
  clear h HB0
  go_wp2_with fail
  refine (M2.out _ (HU1.out)).mono ?_
  rintro e w2 ⟨rfl, hU2⟩
  have HA2 := hid (HA1.out.up hU2)
  have HK2 := hid (HK1.out.up hU2)
  have HU2 := hid (HU1.out.trans hU2)
  clear hU2 HA1 HK1 HU1 c0 c1 c2 c3 c4 c5 k0 k1 k2
  obtain ⟨⟨c0, c1, c2⟩, c3, c4, c5⟩ := HA2.out
  have k0 := HK2.out.val (i := 0) rfl
  have k1 := HK2.out.val (i := 1) rfl
  have k2 := HK2.out.val (i := 2) rfl
  by_cases h : b2 = true
  case neg =>
    have h' : b2 = false := by simpa using h
    have hX : T = false := by rw [HB1.out, h']; rfl
    subst hX
    rw [h']
    clear h h'
    go_wp2
    go_ret
    exact ⟨rfl, HU2.out⟩
  have HB2 : Hid (T = (!b3 && b4)) := hid (by rw [HB1.out, h]; rfl)
  have C2 := hid h
  rw [h]
  clear h HB1
  go_wp2_with fail
  refine (M3.out _ (HU2.out)).mono ?_
  rintro e w3 ⟨rfl, hU3⟩
  have HA3 := hid (HA2.out.up hU3)
  have HK3 := hid (HK2.out.up hU3)
  have HU3 := hid (HU2.out.trans hU3)
  clear hU3 HA2 HK2 HU2 c0 c1 c2 c3 c4 c5 k0 k1 k2
  obtain ⟨⟨c0, c1, c2⟩, c3, c4, c5⟩ := HA3.out
  have k0 := HK3.out.val (i := 0) rfl
  have k1 := HK3.out.val (i := 1) rfl
  have k2 := HK3.out.val (i := 2) rfl
  cases b3
  case true =>
    obtain rfl : T = false := HB2.out
    go_wp2
    go_ret
    exact ⟨rfl, HU3.out⟩
  have HB3 : Hid (T = b4) := hid (by rw [HB2.out]; rfl)
  clear HB2
  go_wp2_with fail
  refine (M4.out _ HU3.out).mono ?_
  rintro e w4 ⟨u, rfl, hu, hU4⟩
  have HA4 := hid (HA3.out.up hU4)
  have HK4 := hid (HK3.out.up hU4)
  have HU4 := hid (HU3.out.trans hU4)
  obtain ⟨ua, uc, rfl, _, _⟩ := hu.shape
  have HUq := hid hu
  clear hU4 hu HA3 HK3 HU3 c0 c1 c2 c3 c4 c5 k0 k1 k2
  by_cases hm : ms.length ≤ 16384
  case neg =>
    have hd : decide (ms.length ≤ 16384) = false := by simpa using hm
    obtain rfl : T = false := by rw [HB3.out]; exact HL.out hm
    rw [hd, if_neg hm]
    clear hd hm
    go_wp2
    go_ret
    exact ⟨rfl, HU4.out⟩
  have hd : decide (ms.length ≤ 16384) = true := by simpa using hm
  rw [if_pos hm] at HUq ⊢
  rw [hd]
  clear hd hm
  obtain ⟨⟨c0, c1, c2⟩, c3, c4, c5⟩ := HA4.out
  have k0 := HK4.out.val (i := 0) rfl
  have k1 := HK4.out.val (i := 1) rfl
  have k2 := HK4.out.val (i := 2) rfl
  go_wp2_with fail
  refine (M5.out _ _ HU4.out HUq.out).mono ?_
  rintro e w5 ⟨rfl, hU5⟩
  have HU5 := hid (HU4.out.trans hU5)
  clear hU5
  obtain rfl : T = b4 := HB3.out
  go_wp2
  go_ret
  exact ⟨rfl, HU5.out⟩
end Go.Proofs.YtoaomjdpiealfaaDoor
namespace Go.Proofs.YtoaomjdpiealfaaDoor
open Go.RowKit Go.Sp
set_option maxHeartbeats 4000000
set_option maxRecDepth 20000

/-- What Sign returns. -/
def SignOut (P Q G A B C x : Int) (l : List Rec) (w : World) (e : Ending) (w' : World) : Prop :=
  (∃ v c s D E, e = .returned (.tuple #[.agg #[v, .int .i64 c, .int .i64 s], .agg D, .int .i64 E]) ∧ D.size = 33 ∧ D.all (·.oneCell') = true ∧
    (E = 0 → OwnR 31 w' w.heap.size v l ∧ bvB P Q G A B C = true ∧ allR P Q G A B C l = true ∧ twB l = false ∧ exB Q x = true ∧ verS P Q G (pwi P G x) (msgR l) c s = true) ∧ (E ≠ 0 → v = nilS ∧ c = 0 ∧ s = 0)) ∧ Up w w'
theorem sizeKL (v : Value) (c s : Int) : (Tryd.prog.info? 50).map (·.size) = some (#[v, Value.int .i64 c, Value.int .i64 s]).size := by kernel_rfl
theorem ownR_row {e t : TypeId} {w : World} {base k : Nat} {v : Value} {rs : List Rec} {cs : Array Value} (h : OwnR e w base v rs) (hb : Blk w k t cs) (hne : t ≠ e) (cs' : Array Value) : OwnR e (w.setRow k cs') base v rs := by
  have ha : some k ≠ v.ownBlock := by
    rcases h.2 with ⟨rfl, _⟩ | ⟨g', cap, cur, rfl, _, hg, _⟩
    · simp [Value.ownBlock]
    · intro he
      simp [Value.ownBlock] at he
      subst he
      have hb' : w.heap[k]? = some (.cells cs t (0, 0)) := hb
      rw [hb'] at hg
      simp only [Option.some.injEq, Obj.cells.injEq] at hg
      exact hne hg.2.1
  refine ⟨h.1, ?_⟩
  rcases h.2 with h2 | ⟨g', cap, cur, rfl, h1, hc, h3⟩
  · exact .inl h2
  · exact .inr ⟨g', cap, cur, rfl, h1, (setRow_other w k g' cs' (by intro e; subst e; exact ha rfl)).trans hc, h3⟩
theorem exB_no {Q x : Int} (h : ¬ exB Q x = true) : (x < 0 ∨ x ≥ Q) := by
  rw [exB_iff] at h
  omega

theorem eSign_any (P Q G A B C x : Int) (h : Nat → Int) (ct : Int) (v : Value) (l : List Rec) (w : World) (hP : -9223372036854775808 ≤ P) (hQ : Q ≤ 9223372036854775807) (hT : Tab w) (hS : TabS w) (hB : Byt h) (hv : RecsAt w v l) (hn : NilOr v) (hl : l.length ≤ 1000) (hI : ∀ r ∈ l, I64 r.kd ∧ I64 r.nr ∧ I64 r.co) :
    Calls Tryd.prog 19 #[bas P Q G A B C, .int .i64 x, v, drw h ct] w (SignOut P Q G A B C x l w) := by
  have M1 := hid (fun w' (hU : Up w w') => bValid_any P Q G A B C w' hP hQ (hT.up hU))
  have M2 := hid (fun w' (hU : Up w w') => evalid_any P Q G A B C v l w' hP hQ (hT.up hU) (hv.up hU))
  have M3 := hid (fun w' => draValid_any h ct w')
  have M4 := hid (fun w' (hU : Up w w') => twice_any v l w' (hv.up hU) hl hI)
  have M5 := hid (fun w' (hU : Up w w') => message_any v l w' (hv.up hU) hl)
  have M6 := hid (fun u w' (hU : Up w w') (hg : gvB P Q G = true) (hx : exB Q x = true) (hu : SeqAt .u8 w' u (msgR l)) (hm : (msgR l).length ≤ 16384) => sigSign_ok P Q G x ct h u (msgR l) w' hP hQ (hT.up hU) (hS.up hU) hg hx hB hu (msgR_byt l) hm)
  have M7 := hid (fun w' (hU : Up w w') => cloneR_any v l w' (hv.up hU) hn hl)
  have HG := hid (fun (hb : bvB P Q G A B C = true) => (bv_iff.1 hb).1)
  have HSz := hid (sizeDrw h ct)
  have HS1 := hid (drwA_size h ct)
  obtain ⟨b1, hb1⟩ : ∃ b, bvB P Q G A B C = b := ⟨_, rfl⟩
  obtain ⟨b2, hb2⟩ : ∃ b, allR P Q G A B C l = b := ⟨_, rfl⟩
  obtain ⟨b4, hb4⟩ : ∃ b, twB l = b := ⟨_, rfl⟩
  rw [hb1] at M1 HG
  rw [hb2] at M2
  rw [hb4] at M4
  have HB1 := hid hb1
  have HB2 := hid hb2
  have HB4 := hid hb4
  clear hb1 hb2 hb4
  generalize dvB ct = b3 at *
  unfold drw at M3 M6 ⊢
  generalize drwA h ct = D0 at *
  obtain ⟨_, a, cp, rfl, _⟩ := hv
  obtain ⟨m, hm⟩ : ∃ m, l.length = m := ⟨_, rfl⟩
  rw [hm] at M2 M4 M5 M7 ⊢
  obtain ⟨o, ho⟩ : ∃ o, w.heap.size = o := ⟨_, rfl⟩
  have HO := hid ho
  obtain ⟨o1, ho1⟩ : ∃ o1, o + 1 = o1 := ⟨_, rfl⟩
  have HO1 := hid ho1
  obtain ⟨o2, ho2⟩ : ∃ o2, o1 + 1 = o2 := ⟨_, rfl⟩
  have HO2 := hid ho2
  obtain ⟨o3, ho3⟩ : ∃ o3, o2 + 1 = o3 := ⟨_, rfl⟩
  have HO3 := hid ho3
  have hl2 : w.heap.size ≤ o2 := by omega
  have hl3 : w.heap.size ≤ o3 := by omega
  have hl1 : w.heap.size ≤ o1 := by omega
  have n12 : o1 < o2 := by omega
  have n23 : o2 < o3 := by omega
  have n01 : o < o1 := by omega
  clear hT hS hB hn hI hm ho ho1 ho2 ho3
  go_enter Tryd.func19, Tryd.ntmps19
  go_wp2_with fail
  refine (M1.out _ (((((Up.refl w).alloc _).alloc _).alloc _).alloc _)).mono ?_
  rintro e w1 ⟨rfl, hU1⟩
  have HA1 := hid (((nums_six (w := w) (t := 25) HO.out).up ((((Up.refl _).alloc _).alloc _).alloc _)).up hU1)
  have HD1 := hid (((Blk.new (g := o1) (t := 45) (cs := D0) (by have := HO.out; have := HO1.out; have := HO2.out; have := HO3.out; simp; omega) rfl).up (((Up.refl _).alloc _).alloc _)).up hU1)
  have HK1 := hid (((Blk.new (g := o2) (t := 50) (cs := #[nilS, .int .i64 0, .int .i64 0]) (by have := HO.out; have := HO1.out; have := HO2.out; have := HO3.out; simp; omega) rfl).up ((Up.refl _).alloc _)).up hU1)
  have HY1 := hid (((Blk.new (g := o3) (t := 45) (by have := HO.out; have := HO1.out; have := HO2.out; have := HO3.out; simp; omega) zero33)).up hU1)
  have HU1 := hid ((((((Up.refl w).alloc _).alloc _).alloc _).alloc _).trans hU1)
  clear hU1
  rw [HO.out, HO1.out, HO2.out, HO3.out]
  obtain ⟨⟨c0, c1, c2⟩, c3, c4, c5⟩ := HA1.out
  cases b1
  case false =>
    have hz := HK1.out
    have hy := HY1.out
    have hu := HU1.out
    go_wp2_with (first
      | (refine wpList_store_rowTo rfl 50 _ _ rfl rfl o2 #[nilS, .int .i64 0, .int .i64 0] rfl rfl 50 #[nilS, .int .i64 0, .int .i64 0] hz (sizeKL _ _ _) rfl (by first | kernel_rfl | simp [Value.oneCell']) ?_)
      | (refine wpList_store_rowTo rfl 45 _ _ rfl rfl o3 (drwA zeroH 0) rfl (congrArg Value.agg zero33) 45 (drwA zeroH 0) (hy.rowApart (show o3 ≠ o2 by omega) _) (sizeDrw _ _) rfl (drwA_one _ _) ?_))
    refine bodyPost_ret (results_row_row_tmp Tryd.results19 _ _ o2 o3 50 45 _ _ (0, 0) (0, 0) _ _ (by rfl) ((hz.row _).rowApart (show o2 ≠ o3 by omega) _) Tryd.underlying50 rfl (sizeKL _ _ _) (by rfl) ((hy.rowApart (show o3 ≠ o2 by omega) _).row _) Tryd.underlying45 rfl (sizeDrw _ _)) rfl ⟨⟨nilS, 0, 0, _, 1, rfl, drwA_size _ _, drwA_one _ _, fun h => absurd h (by decide), fun _ => ⟨rfl, rfl, rfl⟩⟩, (hu.setRow hl2 _).setRow hl3 _⟩
  go_wp2_with fail
  refine (M2.out _ (HU1.out)).mono ?_
  rintro e w2 ⟨rfl, hU2⟩
  have HA2 := hid (HA1.out.up hU2)
  have HD2 := hid (HD1.out.up hU2)
  have HK2 := hid (HK1.out.up hU2)
  have HY2 := hid (HY1.out.up hU2)
  have HU2 := hid (HU1.out.trans hU2)
  clear hU2 HA1 HD1 HK1 HY1 HU1 c0 c1 c2 c3 c4 c5
  obtain ⟨⟨c0, c1, c2⟩, c3, c4, c5⟩ := HA2.out
  cases b2
  case false =>
    have hz := HK2.out
    have hy := HY2.out
    have hu := HU2.out
    go_wp2_with (first
      | (refine wpList_store_rowTo rfl 50 _ _ rfl rfl o2 #[nilS, .int .i64 0, .int .i64 0] rfl rfl 50 #[nilS, .int .i64 0, .int .i64 0] hz (sizeKL _ _ _) rfl (by first | kernel_rfl | simp [Value.oneCell']) ?_)
      | (refine wpList_store_rowTo rfl 45 _ _ rfl rfl o3 (drwA zeroH 0) rfl (congrArg Value.agg zero33) 45 (drwA zeroH 0) (hy.rowApart (show o3 ≠ o2 by omega) _) (sizeDrw _ _) rfl (drwA_one _ _) ?_))
    refine bodyPost_ret (results_row_row_tmp Tryd.results19 _ _ o2 o3 50 45 _ _ (0, 0) (0, 0) _ _ (by rfl) ((hz.row _).rowApart (show o2 ≠ o3 by omega) _) Tryd.underlying50 rfl (sizeKL _ _ _) (by rfl) ((hy.rowApart (show o3 ≠ o2 by omega) _).row _) Tryd.underlying45 rfl (sizeDrw _ _)) rfl ⟨⟨nilS, 0, 0, _, 1, rfl, drwA_size _ _, drwA_one _ _, fun h => absurd h (by decide), fun _ => ⟨rfl, rfl, rfl⟩⟩, (hu.setRow hl2 _).setRow hl3 _⟩
  go_wp2_with (first | refine wpList_load_row rfl 45 _ rfl o1 rfl 45 D0 (0, 0) _ HD2.out Tryd.underlying45 rfl HSz.out ?_ | refine wpList_load_rowG (by rfl) 45 _ rfl o1 rfl 45 D0 (0, 0) _ HD2.out Tryd.underlying45 rfl HSz.out ?_)
  refine (M3.out _).mono ?_
  rintro e w3 ⟨rfl, hU3⟩
  have HA3 := hid (HA2.out.up hU3)
  have HD3 := hid (HD2.out.up hU3)
  have HK3 := hid (HK2.out.up hU3)
  have HY3 := hid (HY2.out.up hU3)
  have HU3 := hid (HU2.out.trans hU3)
  clear hU3 HA2 HD2 HK2 HY2 HU2 c0 c1 c2 c3 c4 c5
  obtain ⟨⟨c0, c1, c2⟩, c3, c4, c5⟩ := HA3.out
  cases b3
  case false =>
    have hz := HK3.out
    have hy := HY3.out
    have hu := HU3.out
    go_wp2_with (first
      | (refine wpList_store_rowTo rfl 50 _ _ rfl rfl o2 #[nilS, .int .i64 0, .int .i64 0] rfl rfl 50 #[nilS, .int .i64 0, .int .i64 0] hz (sizeKL _ _ _) rfl (by first | kernel_rfl | simp [Value.oneCell']) ?_)
      | (refine wpList_store_rowTo rfl 45 _ _ rfl rfl o3 (drwA zeroH 0) rfl (congrArg Value.agg zero33) 45 (drwA zeroH 0) (hy.rowApart (show o3 ≠ o2 by omega) _) (sizeDrw _ _) rfl (drwA_one _ _) ?_))
    refine bodyPost_ret (results_row_row_tmp Tryd.results19 _ _ o2 o3 50 45 _ _ (0, 0) (0, 0) _ _ (by rfl) ((hz.row _).rowApart (show o2 ≠ o3 by omega) _) Tryd.underlying50 rfl (sizeKL _ _ _) (by rfl) ((hy.rowApart (show o3 ≠ o2 by omega) _).row _) Tryd.underlying45 rfl (sizeDrw _ _)) rfl ⟨⟨nilS, 0, 0, _, 1, rfl, drwA_size _ _, drwA_one _ _, fun h => absurd h (by decide), fun _ => ⟨rfl, rfl, rfl⟩⟩, (hu.setRow hl2 _).setRow hl3 _⟩
  by_cases hx : exB Q x = true
  case neg =>
    rcases exB_no hx with h1 | h1
    · have e1 : decide (x < 0) = true := by simpa using h1
      have hz := HK3.out
      have hy := HY3.out
      have hu := HU3.out
      go_wp2_with (first
        | (refine wpList_store_rowTo rfl 50 _ _ rfl rfl o2 #[nilS, .int .i64 0, .int .i64 0] rfl rfl 50 #[nilS, .int .i64 0, .int .i64 0] hz (sizeKL _ _ _) rfl (by first | kernel_rfl | simp [Value.oneCell']) ?_)
        | (refine wpList_store_rowTo rfl 45 _ _ rfl rfl o3 (drwA zeroH 0) rfl (congrArg Value.agg zero33) 45 (drwA zeroH 0) (hy.rowApart (show o3 ≠ o2 by omega) _) (sizeDrw _ _) rfl (drwA_one _ _) ?_))
      refine bodyPost_ret (results_row_row_tmp Tryd.results19 _ _ o2 o3 50 45 _ _ (0, 0) (0, 0) _ _ (by rfl) ((hz.row _).rowApart (show o2 ≠ o3 by omega) _) Tryd.underlying50 rfl (sizeKL _ _ _) (by rfl) ((hy.rowApart (show o3 ≠ o2 by omega) _).row _) Tryd.underlying45 rfl (sizeDrw _ _)) rfl ⟨⟨nilS, 0, 0, _, 2, rfl, drwA_size _ _, drwA_one _ _, fun h => absurd h (by decide), fun _ => ⟨rfl, rfl, rfl⟩⟩, (hu.setRow hl2 _).setRow hl3 _⟩
    · by_cases h2 : x < 0
      · have e1 : decide (x < 0) = true := by simpa using h2
        have hz := HK3.out
        have hy := HY3.out
        have hu := HU3.out
        go_wp2_with (first
          | (refine wpList_store_rowTo rfl 50 _ _ rfl rfl o2 #[nilS, .int .i64 0, .int .i64 0] rfl rfl 50 #[nilS, .int .i64 0, .int .i64 0] hz (sizeKL _ _ _) rfl (by first | kernel_rfl | simp [Value.oneCell']) ?_)
          | (refine wpList_store_rowTo rfl 45 _ _ rfl rfl o3 (drwA zeroH 0) rfl (congrArg Value.agg zero33) 45 (drwA zeroH 0) (hy.rowApart (show o3 ≠ o2 by omega) _) (sizeDrw _ _) rfl (drwA_one _ _) ?_))
        refine bodyPost_ret (results_row_row_tmp Tryd.results19 _ _ o2 o3 50 45 _ _ (0, 0) (0, 0) _ _ (by rfl) ((hz.row _).rowApart (show o2 ≠ o3 by omega) _) Tryd.underlying50 rfl (sizeKL _ _ _) (by rfl) ((hy.rowApart (show o3 ≠ o2 by omega) _).row _) Tryd.underlying45 rfl (sizeDrw _ _)) rfl ⟨⟨nilS, 0, 0, _, 2, rfl, drwA_size _ _, drwA_one _ _, fun h => absurd h (by decide), fun _ => ⟨rfl, rfl, rfl⟩⟩, (hu.setRow hl2 _).setRow hl3 _⟩
      · have e1 : decide (x < 0) = false := by simpa using h2
        have e2 : decide (x ≥ Q) = true := by simpa using h1
        have hz := HK3.out
        have hy := HY3.out
        have hu := HU3.out
        go_wp2_with (first
          | (refine wpList_store_rowTo rfl 50 _ _ rfl rfl o2 #[nilS, .int .i64 0, .int .i64 0] rfl rfl 50 #[nilS, .int .i64 0, .int .i64 0] hz (sizeKL _ _ _) rfl (by first | kernel_rfl | simp [Value.oneCell']) ?_)
          | (refine wpList_store_rowTo rfl 45 _ _ rfl rfl o3 (drwA zeroH 0) rfl (congrArg Value.agg zero33) 45 (drwA zeroH 0) (hy.rowApart (show o3 ≠ o2 by omega) _) (sizeDrw _ _) rfl (drwA_one _ _) ?_))
        refine bodyPost_ret (results_row_row_tmp Tryd.results19 _ _ o2 o3 50 45 _ _ (0, 0) (0, 0) _ _ (by rfl) ((hz.row _).rowApart (show o2 ≠ o3 by omega) _) Tryd.underlying50 rfl (sizeKL _ _ _) (by rfl) ((hy.rowApart (show o3 ≠ o2 by omega) _).row _) Tryd.underlying45 rfl (sizeDrw _ _)) rfl ⟨⟨nilS, 0, 0, _, 2, rfl, drwA_size _ _, drwA_one _ _, fun h => absurd h (by decide), fun _ => ⟨rfl, rfl, rfl⟩⟩, (hu.setRow hl2 _).setRow hl3 _⟩
  have e1 : decide (x < 0) = false := by have := exB_iff.1 hx; simp; omega
  have e2 : decide (x ≥ Q) = false := by have := exB_iff.1 hx; simp; omega
  have HX := hid hx
  clear hx
  go_wp2_with fail
  refine (M4.out _ (HU3.out)).mono ?_
  rintro e w4 ⟨rfl, hU4⟩
  have HA4 := hid (HA3.out.up hU4)
  have HD4 := hid (HD3.out.up hU4)
  have HK4 := hid (HK3.out.up hU4)
  have HY4 := hid (HY3.out.up hU4)
  have HU4 := hid (HU3.out.trans hU4)
  clear hU4 HA3 HD3 HK3 HY3 HU3 c0 c1 c2 c3 c4 c5
  obtain ⟨⟨c0, c1, c2⟩, c3, c4, c5⟩ := HA4.out
  cases b4
  case true =>
    have hz := HK4.out
    have hy := HY4.out
    have hu := HU4.out
    go_wp2_with (first
      | (refine wpList_store_rowTo rfl 50 _ _ rfl rfl o2 #[nilS, .int .i64 0, .int .i64 0] rfl rfl 50 #[nilS, .int .i64 0, .int .i64 0] hz (sizeKL _ _ _) rfl (by first | kernel_rfl | simp [Value.oneCell']) ?_)
      | (refine wpList_store_rowTo rfl 45 _ _ rfl rfl o3 (drwA zeroH 0) rfl (congrArg Value.agg zero33) 45 (drwA zeroH 0) (hy.rowApart (show o3 ≠ o2 by omega) _) (sizeDrw _ _) rfl (drwA_one _ _) ?_))
    refine bodyPost_ret (results_row_row_tmp Tryd.results19 _ _ o2 o3 50 45 _ _ (0, 0) (0, 0) _ _ (by rfl) ((hz.row _).rowApart (show o2 ≠ o3 by omega) _) Tryd.underlying50 rfl (sizeKL _ _ _) (by rfl) ((hy.rowApart (show o3 ≠ o2 by omega) _).row _) Tryd.underlying45 rfl (sizeDrw _ _)) rfl ⟨⟨nilS, 0, 0, _, 8, rfl, drwA_size _ _, drwA_one _ _, fun h => absurd h (by decide), fun _ => ⟨rfl, rfl, rfl⟩⟩, (hu.setRow hl2 _).setRow hl3 _⟩
  go_wp2_with fail
  refine (M5.out _ HU4.out).mono ?_
  rintro e w5 ⟨u, rfl, hu5, hU5⟩
  have HA5 := hid (HA4.out.up hU5)
  have HD5 := hid (HD4.out.up hU5)
  have HK5 := hid (HK4.out.up hU5)
  have HY5 := hid (HY4.out.up hU5)
  have HU5 := hid (HU4.out.trans hU5)
  obtain ⟨ua, uc, rfl, _, _⟩ := hu5.shape
  have HUq := hid hu5
  clear hU5 hu5 HA4 HD4 HK4 HY4 HU4 c0 c1 c2 c3 c4 c5
  by_cases hm : (msgR l).length ≤ 16384
  case neg =>
    have hd : decide ((msgR l).length ≤ 16384) = false := by simpa using hm
    rw [hd, if_neg hm]
    clear hd hm
    have hz := HK5.out
    have hy := HY5.out
    have hu := HU5.out
    go_wp2_with (first
      | (refine wpList_store_rowTo rfl 50 _ _ rfl rfl o2 #[nilS, .int .i64 0, .int .i64 0] rfl rfl 50 #[nilS, .int .i64 0, .int .i64 0] hz (sizeKL _ _ _) rfl (by first | kernel_rfl | simp [Value.oneCell']) ?_)
      | (refine wpList_store_rowTo rfl 45 _ _ rfl rfl o3 (drwA zeroH 0) rfl (congrArg Value.agg zero33) 45 (drwA zeroH 0) (hy.rowApart (show o3 ≠ o2 by omega) _) (sizeDrw _ _) rfl (drwA_one _ _) ?_))
    refine bodyPost_ret (results_row_row_tmp Tryd.results19 _ _ o2 o3 50 45 _ _ (0, 0) (0, 0) _ _ (by rfl) ((hz.row _).rowApart (show o2 ≠ o3 by omega) _) Tryd.underlying50 rfl (sizeKL _ _ _) (by rfl) ((hy.rowApart (show o3 ≠ o2 by omega) _).row _) Tryd.underlying45 rfl (sizeDrw _ _)) rfl ⟨⟨nilS, 0, 0, _, 5, rfl, drwA_size _ _, drwA_one _ _, fun h => absurd h (by decide), fun _ => ⟨rfl, rfl, rfl⟩⟩, (hu.setRow hl2 _).setRow hl3 _⟩
  have hd : decide ((msgR l).length ≤ 16384) = true := by simpa using hm
  rw [if_pos hm] at HUq ⊢
  rw [hd]
  have HMl := hid hm
  clear hd hm
  obtain ⟨⟨c0, c1, c2⟩, c3, c4, c5⟩ := HA5.out
  go_wp2_with (first | refine wpList_load_row rfl 45 _ rfl o1 rfl 45 D0 (0, 0) _ HD5.out Tryd.underlying45 rfl HSz.out ?_ | refine wpList_load_rowG (by rfl) 45 _ rfl o1 rfl 45 D0 (0, 0) _ HD5.out Tryd.underlying45 rfl HSz.out ?_)
  refine (M6.out _ _ HU5.out (HG.out (by trivial)) HX.out HUq.out HMl.out).mono ?_
  rintro e w6 ⟨⟨c, s, D, E, rfl, hD1, hD2, hE0, hE1⟩, hU6⟩
  have HA6 := hid (HA5.out.up hU6)
  have HD6 := hid (HD5.out.up hU6)
  have HK6 := hid (HK5.out.up hU6)
  have HY6 := hid (HY5.out.up hU6)
  have HU6 := hid (HU5.out.trans hU6)
  have hD3 : (Tryd.prog.info? 45).map (·.size) = some D.size := by rw [hD1]; kernel_rfl
  have HE0 := hid hE0
  have HD1 := hid hD1
  have HD2 := hid hD2
  clear hU6 hE0 hE1 HA5 HD5 HK5 HY5 HU5 HUq c0 c1 c2 c3 c4 c5 hD1 hD2 HA6
  obtain ⟨os, hos⟩ : ∃ os, w6.heap.size = os := ⟨_, rfl⟩
  have l3s : o3 < os := by rw [← hos]; exact HY6.out.lt
  obtain ⟨w7, hw7⟩ : ∃ w7, w6.alloc (.cells #[.int .i64 c, .int .i64 s] 48) = w7 := ⟨_, rfl⟩
  have hup7 : Up w6 w7 := by rw [← hw7]; exact (Up.refl w6).alloc _
  have HG7 : Hid (Blk w7 os 48 #[.int .i64 c, .int .i64 s]) := hid (by rw [← hw7]; exact Blk.new hos rfl)
  have HD7 := hid (HD6.out.up hup7)
  have HK7 := hid (HK6.out.up hup7)
  have HY7 := hid (HY6.out.up hup7)
  have HU7 := hid (HU6.out.trans hup7)
  have HW7 := hid hw7
  have HOs := hid hos
  clear hup7 hw7 hos HD6 HK6 HY6 HU6
  by_cases hE : E = 0
  case neg =>
    have dE : (E != 0) = true := by simpa using hE
    have HK8 := hid (HK7.out.rowApart (k := o1) (by omega) D)
    have HY8 := hid (HY7.out.rowApart (k := o1) (by omega) D)
    have HU8 := hid (HU7.out.setRow (g := o1) hl1 D)
    have hz := HK8.out
    have hy := HY8.out
    have hu := HU8.out
    go_wp2_with (first
      | (rw [HW7.out]; refine wpList_store_rowTo rfl 45 _ _ rfl rfl o1 D rfl rfl 45 D0 HD7.out hD3 (by rw [HS1.out, HD1.out]) HD2.out ?_)
      | (refine wpList_store_rowTo rfl 50 _ _ rfl rfl o2 #[nilS, .int .i64 0, .int .i64 0] rfl rfl 50 #[nilS, .int .i64 0, .int .i64 0] hz (sizeKL _ _ _) rfl (by first | kernel_rfl | simp [Value.oneCell']) ?_)
      | (refine wpList_store_rowTo rfl 45 _ _ rfl rfl o3 (drwA zeroH 0) rfl (congrArg Value.agg zero33) 45 (drwA zeroH 0) (hy.rowApart (show o3 ≠ o2 by omega) _) (sizeDrw _ _) rfl (drwA_one _ _) ?_))
    refine bodyPost_ret (results_row_row_tmp Tryd.results19 _ _ o2 o3 50 45 _ _ (0, 0) (0, 0) _ _ (by rfl) ((hz.row _).rowApart (show o2 ≠ o3 by omega) _) Tryd.underlying50 rfl (sizeKL _ _ _) (by rfl) ((hy.rowApart (show o3 ≠ o2 by omega) _).row _) Tryd.underlying45 rfl (sizeDrw _ _)) rfl ⟨⟨nilS, 0, 0, _, E, rfl, drwA_size _ _, drwA_one _ _, fun h => absurd h hE, fun _ => ⟨rfl, rfl, rfl⟩⟩, (hu.setRow hl2 _).setRow hl3 _⟩
  subst hE
  go_wp2_with (rw [HW7.out]; refine wpList_store_rowTo rfl 45 _ _ rfl rfl o1 D rfl rfl 45 D0 HD7.out hD3 (by rw [HS1.out, HD1.out]) HD2.out ?_)
  have HD8 := hid (HD7.out.row D)
  have HG8 := hid (HG7.out.rowApart (k := o1) (by omega) D)
  have HK8 := hid (HK7.out.rowApart (k := o1) (by omega) D)
  have HY8 := hid (HY7.out.rowApart (k := o1) (by omega) D)
  have HU8 := hid (HU7.out.setRow (g := o1) hl1 D)
  clear HD7 HG7 HK7 HY7 HU7
  try rw [HOs.out]
  generalize w7.setRow o1 D = w8 at *
  refine region_E (fun u => Blk u o1 45 D ∧ Blk u os 48 #[.int .i64 c, .int .i64 s]) 7 (by kernel_rfl) ⟨HD8.out.up (Up.refl _).drew, HG8.out.up (Up.refl _).drew⟩ fun hS => ?_
  have hK0 := HK8.out.up (Up.refl w8).drew
  have hY0 := HY8.out.up (Up.refl w8).drew
  have hU0 := HU8.out.drew
  generalize w8.drew = v0 at *
  clear HD8 HG8 HK8 HY8 HU8
  refine anyE_take (i := 0) (v := ?_) 73 rfl rfl (by kernel_rfl) (by kernel_rfl) (by decide) (fun _ _ _ h => h) (by kernel_rfl) (by kernel_rfl) (.inl ⟨by rfl, fun u hu => ?_⟩) hS ?_
  rotate_left
  · (go_simp; first | done | with_reducible rfl)
  try simp only [Act.put, List.setIfInBounds_toArray, List.set_cons_zero, List.set_cons_succ]
  refine anyE_take (i := 2) (v := ?_) 75 rfl rfl (by kernel_rfl) (by kernel_rfl) (by decide) (fun _ _ _ h => h) (by kernel_rfl) (by kernel_rfl) (.inl ⟨by rfl, fun u hu => ?_⟩) hS ?_
  rotate_left
  · (have z0 := hu.2.val (i := 0) rfl; have z1 := hu.2.val (i := 1) rfl; go_simp; first | done | with_reducible rfl)
  try simp only [Act.put, List.setIfInBounds_toArray, List.set_cons_zero, List.set_cons_succ]
  refine anyE_take (i := 4) (v := .agg D.toList.toArray) 77 rfl rfl (by kernel_rfl) (by kernel_rfl) (by decide) (fun _ _ _ h => h) (by kernel_rfl) (by kernel_rfl) (yieldsIf_load_mid (by rfl) 45 _ rfl o1 0 rfl D.toList _ (fun u hu => blk_range hu.1) Tryd.underlying45 rfl (by rw [Array.length_toList]; exact hD3)) hS ?_
  rw [Array.toArray_toList]
  try simp only [Act.put, List.setIfInBounds_toArray, List.set_cons_zero, List.set_cons_succ]
  refine anyE_oneG (i := 1) rfl (by kernel_rfl) (by rfl) (fun K hK => ?_)
  go_simp
  refine (M7.out _ hU0).mono ?_
  rintro e v1 ⟨u1, rfl, hO1, hup⟩
  try dsimp only
  have hS1 : Blk v1 o1 45 D ∧ Blk v1 os 48 #[.int .i64 c, .int .i64 s] := ⟨hS.1.up hup, hS.2.up hup⟩
  have hK1 := hK0.up hup
  have hY1 := hY0.up hup
  have hO1 := hO1.mono hU0.size
  have hU1 := hU0.trans hup
  obtain ⟨ad, ac, hsh⟩ := hO1.shape
  refine hK.out _ _ (.inr hS1) ?_
  clear hK
  try simp only [Act.put, List.setIfInBounds_toArray, List.set_cons_zero, List.set_cons_succ]
  subst hsh
  refine anyE_oneG (i := 3) rfl (by kernel_rfl) (by rfl) (fun K hK => ?_)
  refine op_builtS 50 _ rfl _ rfl #[.slice ad l.length ac, .int .i64 c, .int .i64 s] (by kernel_rfl) ?_
  refine hK.out _ _ (.inr hS1) ?_
  clear hK
  try simp only [Act.put, List.setIfInBounds_toArray]
  refine anyE_oneG (i := 5) rfl (by kernel_rfl) (by rfl) (fun K hK => ?_)
  refine op_store_row 50 _ _ rfl rfl o2 #[.slice ad l.length ac, .int .i64 c, .int .i64 s] rfl rfl 50 #[nilS, .int .i64 0, .int .i64 0] hK1 (sizeKL _ _ _) rfl (by first | kernel_rfl | simp [Value.oneCell']) ?_
  have hS2 := And.intro (Blk.rowApart hS1.1 (show o1 ≠ o2 by omega) #[.slice ad l.length ac, .int .i64 c, .int .i64 s]) (Blk.rowApart hS1.2 (show os ≠ o2 by omega) #[.slice ad l.length ac, .int .i64 c, .int .i64 s])
  refine hK.out _ _ (.inr hS2) ?_
  clear hK
  try simp only [Act.put, List.setIfInBounds_toArray, List.set_cons_zero, List.set_cons_succ]
  refine anyE_oneG (i := 6) rfl (by kernel_rfl) (by rfl) (fun K hK => ?_)
  refine op_store_row 45 _ _ rfl rfl o3 D rfl rfl 45 (drwA zeroH 0) (hY1.rowApart (show o3 ≠ o2 by omega) _) hD3 (by rw [drwA_size, HD1.out]) HD2.out ?_
  have hS3 := And.intro (Blk.rowApart hS2.1 (show o1 ≠ o3 by omega) D) (Blk.rowApart hS2.2 (show os ≠ o3 by omega) D)
  refine hK.out _ _ (.inr hS3) ?_
  clear hK
  try simp only [Act.put, List.setIfInBounds_toArray, List.set_cons_zero, List.set_cons_succ]
  refine anyE_oneG (i := 7) rfl (by kernel_rfl) (by rfl) (fun K hK => ?_)
  go_simp
  refine hK.out _ _ (.inl rfl) (anyE_done (by kernel_rfl) ?_ _)
  clear hK
  go_wp2
  refine bodyPost_ret (results_row_row_tmp Tryd.results19 _ _ o2 o3 50 45 _ _ (0, 0) (0, 0) _ _ (by rfl) ((hK1.row _).rowApart (show o2 ≠ o3 by omega) _) Tryd.underlying50 rfl (sizeKL _ _ _) (by rfl) ((hY1.rowApart (show o3 ≠ o2 by omega) _).row _) Tryd.underlying45 rfl hD3) rfl ⟨⟨_, c, s, D, 0, rfl, HD1.out, HD2.out, fun _ => ⟨ownR_row (ownR_row hO1 hK1 (by decide) _) (hY1.rowApart (show o3 ≠ o2 by omega) _) (by decide) _, HB1.out, HB2.out, HB4.out, HX.out, (HE0.out (by trivial)).2.2⟩, fun h => absurd rfl h⟩, (hU1.setRow hl2 _).setRow hl3 _⟩
end Go.Proofs.YtoaomjdpiealfaaDoor
namespace Go.Proofs.YtoaomjdpiealfaaDoor
open Go.RowKit Go.Sp
set_option maxHeartbeats 4000000
set_option maxRecDepth 20000

theorem equalR_same (v1 v2 : Value) (l : List Rec) (w : World) (h1 : RecsAt w v1 l) (h2 : RecsAt w v2 l) : Calls Tryd.prog 20 #[v1, v2] w fun e w' => e = .returned (.bool true) ∧ Up w w' := by
  have H1 := hid h1
  have H2 := hid h2
  obtain ⟨hl, a1, c1, rfl, _⟩ := h1
  obtain ⟨_, a2, c2, rfl, _⟩ := h2
  obtain ⟨m, hm⟩ : ∃ m, l.length = m := ⟨_, rfl⟩
  have HM := hid hm
  rw [hm] at H1 H2 hl ⊢
  clear hm
  go_enter Tryd.func20, Tryd.ntmps20
  go_wp2_with fail
  go_loopw [13] (fun vi wr => ∃ i : Nat, i ≤ m ∧ vi = .int .i64 i ∧ Hid (Up w wr)) (fun vi _ => m - (intOf vi).toNat)
  case atStart => exact ⟨0, by omega, rfl, hid (Up.refl _)⟩
  case round =>
    obtain ⟨i, hi, rfl, HU⟩ := hrel
    by_cases hlt : i < m
    · have hlx : i < l.length := by rw [HM.out]; exact hlt
      obtain ⟨g, off, rfl, hx⟩ := recs_cell H1.out HU.out hlx
      obtain ⟨g', off', rfl, hy⟩ := recs_cell H2.out HU.out hlx
      clear hlx
      generalize l.getD i rec0 = x at *
      obtain ⟨kd, nr, co, iv, ni, ka, kb, kc, st, un, ac⟩ := x
      obtain ⟨p0, p1, p2, p3, p4, p5, p6, p7, p8, p9, p10⟩ := hx
      obtain ⟨q0, q1, q2, q3, q4, q5, q6, q7, q8, q9, q10⟩ := hy
      dsimp only at p0 p1 p2 p3 p4 p5 p6 p7 p8 p9 p10 q0 q1 q2 q3 q4 q5 q6 q7 q8 q9 q10
      have f0 := cellF p0
      have g0 := cellF q0
      have f1 := cellF p1
      have g1 := cellF q1
      have f2 := cellF p2
      have g2 := cellF q2
      have f3 := cellF p3
      have g3 := cellF q3
      have f4 := cellF p4
      have g4 := cellF q4
      have f5 := cellF p5
      have g5 := cellF q5
      have f6 := cellF p6
      have g6 := cellF q6
      have f7 := cellF p7
      have g7 := cellF q7
      have f8 := cellF p8
      have g8 := cellF q8
      have f9 := cellF p9
      have g9 := cellF q9
      have f10 := cellF p10
      have g10 := cellF q10
      clear p0 q0 p1 q1 p2 q2 p3 q3 p4 q4 p5 q5 p6 q6 p7 q7 p8 q8 p9 q9 p10 q10
      go_wp2_with fail
      refine wp_region_up (by kernel_rfl) (by kernel_rfl) ?_
      repeat (go_big_quiet_step (fail))
      refine wpQuiet_nil ?_
      rintro w1 ⟨⟨_, hU1⟩, rfl⟩
      try dsimp only
      have HU1 := hid (HU.out.trans hU1)
      clear hU1 f0 g0 f1 g1 f2 g2 f3 g3 f4 g4 f5 g5 f6 g6 f7 g7 f8 g8 f9 g9 f10 g10
      go_wp2_with fail
      go_roundw
      case rel => exact ⟨i + 1, by omega, by go_num, HU1⟩
      case measure => simp [intOf]; omega
    · obtain rfl : i = m := by omega
      go_wp2
      go_ret
      exact ⟨rfl, HU.out⟩
end Go.Proofs.YtoaomjdpiealfaaDoor
