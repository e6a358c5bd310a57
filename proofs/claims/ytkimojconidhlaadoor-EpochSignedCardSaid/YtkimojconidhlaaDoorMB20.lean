/- The reference's encoding: integers, bytes and lists. The reference's challenge of a coin. The reference's challenge of a coin: the walk. Package epoch: valid, twice, message. Package signature: the writer of a transcript. -/
import Derived.Test.YtkimojconidhlaaDoorMB19
import Derived.Test.YtkimojconidhlaaDoorMB4
import Derived.Test.YtkimojconidhlaaDoorMB14
import Derived.Test.YtkimojconidhlaaDoorMB18
import Derived.Test.YtkimojconidhlaaDoorMB15
namespace Go.Proofs.YtkimojconidhlaaDoor
open Go.RowKit Go.Sp
set_option maxHeartbeats 4000000
set_option maxRecDepth 20000

theorem own_one {w : World} {base g : Nat} (x : Int) (hg : w.heap.size = g) (hb : base ≤ g) : OwnS 5 .u8 (w.alloc (.cells #[.int .u8 x] 5)) base (.slice (some ⟨g, 0, none⟩) 1 1) [x] := by
  have h : Blk (w.alloc (.cells #[.int .u8 x] 5)) g 5 (arrK .u8 (fun _ => x) 1) := Blk.new hg (by kernel_rfl)
  exact h.own hb (by omega)

/-- What the reference's Encode returns. -/
def REnc (es : List Int) (w : World) (e : Ending) (w' : World) : Prop := ∃ v, e = .returned v ∧ OwnS 5 .u8 w' w.heap.size v es ∧ Up w w'

end Go.Proofs.YtkimojconidhlaaDoor
namespace Go.Proofs.YtkimojconidhlaaDoor
open Go.RowKit Go.Sp
set_option maxHeartbeats 4000000
set_option maxRecDepth 20000

end Go.Proofs.YtkimojconidhlaaDoor
namespace Go.Proofs.YtkimojconidhlaaDoor
open Go.RowKit Go.Sp
set_option maxHeartbeats 4000000
set_option maxRecDepth 20000

theorem ownsRow_set {w : World} {base e size n : Nat} {v : Value} {us : List Value} (h : w.ownsRow base e size v n us) {a : Addr} (ha : a.block < base) (x : Value) : (w.setCell a x).ownsRow base e size v n us := by
  refine ⟨h.1, ?_⟩
  rcases h.2 with hn | ⟨g, cap, cur, rfl, hb, hg, rest⟩
  · exact .inl hn
  · exact .inr ⟨g, cap, cur, rfl, hb, by rw [Below.heap_setCell w a x g (by omega)]; exact hg, rest⟩
theorem OwnS.set {e : TypeId} {k : IntKind} {w : World} {base : Nat} {v : Value} {xs : List Int} (h : OwnS e k w base v xs) {a : Addr} (ha : a.block < base) (x : Value) : OwnS e k (w.setCell a x) base v xs := ownsRow_set h ha x
/-- The items' block is there. -/
theorem OwnQ.blockLt {e : TypeId} {w : World} {base : Nat} {v : Value} {qs : List Quad} (h : OwnQ e w base v qs) (j : Nat) (hj : v.ownBlock = some j) : j < w.heap.size := by
  rcases h.2 with ⟨hv, _⟩ | ⟨g, cap, cur, rfl, hb, hg, _⟩
  · rw [hv] at hj; cases hj
  · simp [Value.ownBlock] at hj
    subst hj
    exact (Array.getElem?_eq_some_iff.1 hg).1

/-- What the first loop's region reads. -/
def RcS (L gn i : Nat) (ad : Option Addr) (cp : Nat) (ns : Array Value) (w : World) : Prop :=
  Blk w L 53 #[.int .i64 3, .int .i64 0, nilS, .slice ad i cp] ∧ Blk w gn 3 ns
theorem RcS.up {L gn i : Nat} {ad : Option Addr} {cp : Nat} {ns : Array Value} {w w' : World} (h : RcS L gn i ad cp ns w) (hU : Up w w') : RcS L gn i ad cp ns w' := ⟨h.1.up hU, h.2.up hU⟩
theorem RcS.below {L gn i B : Nat} {ad : Option Addr} {cp : Nat} {ns : Array Value} {w w' : World} (h : RcS L gn i ad cp ns w) (hb : Below B w w') (h1 : L < B) (h2 : gn < B) : RcS L gn i ad cp ns w' := ⟨h.1.below hb h1, h.2.below hb h2⟩
theorem RcS.cells {L gn i : Nat} {ad : Option Addr} {cp : Nat} {ns : Array Value} {w : World} (h : RcS L gn i ad cp ns w) : w.cell? ⟨L, 3, none⟩ = some (.slice ad i cp) ∧ w.cell? ⟨gn, i, none⟩ = ns[i]? := ⟨h.1.val rfl, h.2.read i⟩

/-- What the second loop's region reads. -/
def RbS (b o i : Nat) (ad : Option Addr) (cp : Nat) (cs : Array Value) (w : World) : Prop :=
  Blk w b 53 #[.int .i64 2, .int .i64 0, .slice ad i cp, nilS] ∧ Blk w o 28 cs
theorem RbS.up {b o i : Nat} {ad : Option Addr} {cp : Nat} {cs : Array Value} {w w' : World} (h : RbS b o i ad cp cs w) (hU : Up w w') : RbS b o i ad cp cs w' := ⟨h.1.up hU, h.2.up hU⟩
theorem RbS.below {b o i B : Nat} {ad : Option Addr} {cp : Nat} {cs : Array Value} {w w' : World} (h : RbS b o i ad cp cs w) (hb : Below B w w') (h1 : b < B) (h2 : o < B) : RbS b o i ad cp cs w' := ⟨h.1.below hb h1, h.2.below hb h2⟩
theorem RbS.cells {b o i : Nat} {ad : Option Addr} {cp : Nat} {cs : Array Value} {w : World} (h : RbS b o i ad cp cs w) : w.cell? ⟨b, 2, none⟩ = some (.slice ad i cp) ∧ w.cell? ⟨o, i, none⟩ = cs[i]? := ⟨h.1.val rfl, h.2.read i⟩

/-- What the last region reads. -/
def ReS (L o : Nat) (v : Value) (P Q G A B C : Int) (w : World) : Prop := Blk w L 53 #[.int .i64 3, .int .i64 0, nilS, v] ∧ BasAt w o P Q G A B C
theorem ReS.up {L o : Nat} {v : Value} {P Q G A B C : Int} {w w' : World} (h : ReS L o v P Q G A B C w) (hU : Up w w') : ReS L o v P Q G A B C w' := ⟨h.1.up hU, h.2.up hU⟩
theorem ReS.cells {L o : Nat} {v : Value} {P Q G A B C : Int} {w : World} (h : ReS L o v P Q G A B C w) : w.cell? ⟨L, 0, none⟩ = some (.int .i64 3) ∧ w.cell? ⟨L, 1, none⟩ = some (.int .i64 0) ∧ w.cell? ⟨L, 2, none⟩ = some nilS ∧ w.cell? ⟨L, 3, none⟩ = some v ∧ w.cell? ⟨o, 1, none⟩ = some (.int .i64 Q) :=
  ⟨h.1.val rfl, h.1.val rfl, h.1.val rfl, h.1.val rfl, h.2.1.2.1⟩

/-- The five items behind the six. -/
def rcQ (vb : Value) (p z x y : Int) : List Quad := [quadI p, ⟨2, 0, vb, nilS⟩, quadI z, quadI x, quadI y]
theorem rcQ_cells {w : World} {g : Nat} {vb : Value} {p z x y : Int} {t : TypeId} (hg : w.heap.size = g) : ∀ i (h : i < (rcQ vb p z x y).length), ItmCells (w.alloc (.cells #[.int .i64 1, .int .i64 p, nilS, nilS, .int .i64 2, .int .i64 0, vb, nilS, .int .i64 1, .int .i64 z, nilS, nilS, .int .i64 1, .int .i64 x, nilS, nilS, .int .i64 1, .int .i64 y, nilS, nilS] t)) g (i * 4) (rcQ vb p z x y)[i].k (rcQ vb p z x y)[i].n (rcQ vb p z x y)[i].b (rcQ vb p z x y)[i].l := by
  intro i h
  have hB : Blk (w.alloc (.cells #[.int .i64 1, .int .i64 p, nilS, nilS, .int .i64 2, .int .i64 0, vb, nilS, .int .i64 1, .int .i64 z, nilS, nilS, .int .i64 1, .int .i64 x, nilS, nilS, .int .i64 1, .int .i64 y, nilS, nilS] t)) g t #[.int .i64 1, .int .i64 p, nilS, nilS, .int .i64 2, .int .i64 0, vb, nilS, .int .i64 1, .int .i64 z, nilS, nilS, .int .i64 1, .int .i64 x, nilS, nilS, .int .i64 1, .int .i64 y, nilS, nilS] := Blk.new hg rfl
  have : i = 0 ∨ i = 1 ∨ i = 2 ∨ i = 3 ∨ i = 4 := by simp [rcQ] at h; omega
  rcases this with rfl | rfl | rfl | rfl | rfl <;> exact ⟨hB.val rfl, hB.val rfl, hB.val rfl, hB.val rfl⟩
theorem rcQ_one {vb : Value} (hv : vb.oneCell' = true) {p z x y : Int} : ∀ i (h : i < (rcQ vb p z x y).length), (rcQ vb p z x y)[i].b.oneCell' = true ∧ (rcQ vb p z x y)[i].l.oneCell' = true := by
  intro i h
  have : i = 0 ∨ i = 1 ∨ i = 2 ∨ i = 3 ∨ i = 4 := by simp [rcQ] at h; omega
  rcases this with rfl | rfl | rfl | rfl | rfl <;> first | exact ⟨rfl, rfl⟩ | exact ⟨hv, rfl⟩
theorem rcQ_at {w : World} {vb : Value} {root : Nat → Int} (P Q G A B C p z a b : Int) (hs : SeqAt .u8 w vb (hList root)) (hR : Byt root) : QuadAt w 0 ([P, Q, G, A, B, C].map quadI ++ rcQ vb p z a b) (coinL P Q G A B C p root z a b) := by
  have h1 := quadI_at w 0 [P, Q, G, A, B, C, p]
  have h2 : QuadAt w 0 [⟨2, 0, vb, nilS⟩] [encBytes (hList root)] := QuadAt.one (itm_bytes hs (by rw [hList_length]; omega) (hList_bytes hR) 0)
  exact h1.app (h2.app (quadI_at w 0 [z, a, b]))

end Go.Proofs.YtkimojconidhlaaDoor
namespace Go.Proofs.YtkimojconidhlaaDoor
open Go.RowKit Go.Sp
set_option maxHeartbeats 4000000
set_option maxRecDepth 20000

/-- Is the record valid? -/
def recR (P Q G A B C : Int) (r : Rec) : Bool := recB P Q G A B C r.kd r.nr r.co r.iv r.ni r.ka r.kb r.kc r.st r.un r.ac
theorem valid1_any (P Q G A B C : Int) (r : Rec) (g : Nat) (w : World) (hP : -9223372036854775808 ≤ P) (hQ : Q ≤ 9223372036854775807) (hT : Tab w) (hb : BasAt w g P Q G A B C) :
    Calls Tryd.prog 40 (#[r.val] ++ #[.pointer (some ⟨g, 0, none⟩)]) w fun e w' => e = .returned (.bool (!recR P Q G A B C r)) ∧ Up w w' := by
  obtain ⟨kd, nr, co, iv, ni, ka, kb, kc, st, un, ac⟩ := r
  have M1 := hid (fun w' (hU : Up w w') => eValid_any P Q G A B C kd nr co iv ni ka kb kc st un ac w' hP hQ (hT.up hU))
  have HB := hid hb
  unfold recR
  generalize recB P Q G A B C kd nr co iv ni ka kb kc st un ac = T at *
  unfold Rec.val epo epoA
  unfold epo epoA at M1
  dsimp only
  rw [show #[Value.agg #[.int .i64 kd, .int .i64 nr, .int .i64 co, .int .i64 iv, .int .i64 ni, .int .i64 ka, .int .i64 kb, .int .i64 kc, .int .i64 st, .int .i64 un, .int .i64 ac]] ++ #[.pointer (some ⟨g, 0, none⟩)] = #[.agg #[.int .i64 kd, .int .i64 nr, .int .i64 co, .int .i64 iv, .int .i64 ni, .int .i64 ka, .int .i64 kb, .int .i64 kc, .int .i64 st, .int .i64 un, .int .i64 ac], .pointer (some ⟨g, 0, none⟩)] from rfl]
  obtain ⟨⟨c0, c1, c2⟩, c3, c4, c5⟩ := hb
  have hl := cell_lt c0
  clear hT HB
  go_enter Tryd.func40, Tryd.ntmps40
  go_wp2_with fail
  refine (M1.out _ ((Up.refl w).alloc _)).mono ?_
  rintro e w1 ⟨rfl, hU1⟩
  have HU1 := hid (((Up.refl w).alloc _).trans hU1)
  clear hU1 c0 c1 c2 c3 c4 c5
  go_wp2
  go_ret
  exact ⟨rfl, HU1.out⟩

/-- Are all records valid? -/
def allR (P Q G A B C : Int) (l : List Rec) : Bool := !l.any fun r => !recR P Q G A B C r
theorem evalid_any (P Q G A B C : Int) (v : Value) (l : List Rec) (w : World) (hP : -9223372036854775808 ≤ P) (hQ : Q ≤ 9223372036854775807) (hT : Tab w) (hv : RecsAt w v l) :
    Calls Tryd.prog 17 #[bas P Q G A B C, v] w fun e w' => e = .returned (.bool (allR P Q G A B C l)) ∧ Up w w' := by
  have HT := hid hT
  have HV := hid hv
  obtain ⟨_, a, cp, rfl, _⟩ := hv
  obtain ⟨o, ho⟩ : ∃ o, w.heap.size = o := ⟨_, rfl⟩
  have HO := hid ho
  obtain ⟨T, hTT⟩ : ∃ T, (l.any fun r => !recR P Q G A B C r) = T := ⟨_, rfl⟩
  have HTT := hid hTT
  unfold allR
  rw [hTT]
  clear hT ho hTT
  go_enter Tryd.func17, Tryd.ntmps17
  go_wp2_with fail
  have hA := nums_six (w := w) (t := 25) (x := P) (y := Q) (z := G) (a := A) (b := B) (c := C) HO.out
  have hU0 := (Up.refl w).alloc (.cells #[.int .i64 P, .int .i64 Q, .int .i64 G, .int .i64 A, .int .i64 B, .int .i64 C] 25)
  rw [HO.out]
  generalize w.alloc (.cells #[.int .i64 P, .int .i64 Q, .int .i64 G, .int .i64 A, .int .i64 B, .int .i64 C] 25) = w0 at *
  refine (ContainsFuncK 40 #[.pointer (some ⟨o, 0, none⟩)] (fun r => !recR P Q G A B C r) _ l w0 (HV.out.up hU0) (fun _ _ => by kernel_rfl) (fun x _ w' hU' => valid1_any P Q G A B C x o w' hP hQ (HT.out.up (hU0.trans hU')) (hA.up hU'))).mono ?_
  rintro e w1 ⟨rfl, hU1⟩
  rw [HTT.out]
  have HU1 := hid (hU0.trans hU1)
  clear hU1 hU0 hA
  go_wp2
  go_ret
  exact ⟨rfl, HU1.out⟩

/-- The three numbers of a record. -/
def tri (r : Rec) : Tri := (r.kd, r.nr, r.co)
/-- The numbers that were seen ahead of the i-th record, the last first. -/
def seenL (l : List Rec) (i : Nat) : List Tri := ((l.take i).map tri).reverse
def twB (l : List Rec) : Bool := (List.range l.length).any fun i => (seenL l i).contains (tri (l.getD i rec0))
theorem seenL_succ {l : List Rec} {i : Nat} (h : i < l.length) : seenL l (i + 1) = tri (l.getD i rec0) :: seenL l i := by
  unfold seenL
  rw [List.take_succ_eq_append_getElem h, List.map_append, List.reverse_append]
  simp [h]
theorem twB_true {l : List Rec} {i : Nat} (hi : i < l.length) (h : (seenL l i).contains (tri (l.getD i rec0)) = true) : twB l = true := by
  unfold twB
  rw [List.any_eq_true]
  exact ⟨i, List.mem_range.2 hi, h⟩
theorem twB_false {l : List Rec} (h : ∀ i, i < l.length → (seenL l i).contains (tri (l.getD i rec0)) = false) : twB l = false := by
  unfold twB
  rw [List.any_eq_false]
  intro i hi
  rw [h i (List.mem_range.1 hi)]
  simp

theorem SetAt.grownUp {w0 w w' : World} {b n : Nat} {S : List Tri} (hU : Up w0 w) (hb : w0.heap.size ≤ b) (hg : w.grownBy w' (some b)) (_h : SetAt w b n S) : Up w0 w' := up_grown hU hg (fun k hk => by injection hk; omega)

theorem twice_any (v : Value) (l : List Rec) (w : World) (hv : RecsAt w v l) (hl : l.length ≤ 1000) (hI : ∀ r ∈ l, I64 r.kd ∧ I64 r.nr ∧ I64 r.co) :
    Calls Tryd.prog 19 #[v] w fun e w' => e = .returned (.bool (twB l)) ∧ Up w w' := by
  have HV := hid hv
  have HI := hid hI
  have HT := hid (fun (i : Nat) (hi : i < l.length) => (twB_true hi : (seenL l i).contains (tri (l.getD i rec0)) = true → twB l = true))
  have HF := hid (twB_false (l := l))
  have HN := hid (fun (i : Nat) (hi : i < l.length) => seenL_succ hi)
  obtain ⟨T, hT⟩ : ∃ T, twB l = T := ⟨_, rfl⟩
  rw [hT] at HT HF ⊢
  obtain ⟨_, a, cp, rfl, _⟩ := hv
  obtain ⟨m, hm⟩ : ∃ m, l.length = m := ⟨_, rfl⟩
  have HM := hid hm
  rw [hm] at HV hl HT HF HN ⊢
  clear hI hm hT
  obtain ⟨S, hS⟩ : ∃ S : Nat → List Tri, seenL l = S := ⟨_, rfl⟩
  have hS0 : S 0 = [] := by rw [← hS]; rfl
  rw [hS] at HT HF HN
  clear hS
  have hmm := @run_makeMap Tryd.prog
  obtain ⟨o, ho⟩ : ∃ o, w.heap.size = o := ⟨_, rfl⟩
  have HO := hid ho
  clear ho
  go_enter Tryd.func19, Tryd.ntmps19
  go_wp2_with fail
  clear hmm
  have HS0 := hid (SetAt.made w)
  have HU0 := hid ((Up.refl w).alloc (.map #[] 0))
  rw [HO.out] at HS0
  rw [HO.out]
  go_loopw [10] (fun vi wr => ∃ i : Nat, i ≤ m ∧ vi = .int .i64 i ∧ Hid (∀ j, j < i → (S j).contains (tri (l.getD j rec0)) = false) ∧ Hid (SetAt wr o i (S i)) ∧ Hid (Up w wr)) (fun vi _ => m - (intOf vi).toNat)
  case atStart => exact ⟨0, by omega, rfl, hid (fun j hj => by omega), hid (hS0.symm ▸ HS0.out), HU0⟩
  case round =>
    clear HS0 HU0
    obtain ⟨i, hi, rfl, HA, HS, HU⟩ := hrel
    by_cases hlt : i < m
    · have hlx : i < l.length := by rw [HM.out]; exact hlt
      obtain ⟨g, off, rfl, hx2⟩ := recs_cell HV.out HU.out hlx
      have HIx := hid (HI.out _ (recs_mem hlx))
      have HNx := hid (HN.out i hlt)
      have HTx := hid (HT.out i hlt)
      have HAx := hid (fun (h : (S i).contains (tri (l.getD i rec0)) = false) => (fun j (hj : j < i + 1) => by
        by_cases he : j < i
        · exact HA.out j he
        · obtain rfl : j = i := by omega
          exact h : ∀ j, j < i + 1 → (S j).contains (tri (l.getD j rec0)) = false))
      clear hlx
      generalize l.getD i rec0 = x at HIx HNx HTx HAx hx2
      obtain ⟨q0, q1, q2, q3, q4, q5, q6, q7, q8, q9, q10⟩ := hx2
      obtain ⟨kd, nr, co, iv, ni, ka, kb, kc, st, un, ac⟩ := x
      dsimp only at q0 q1 q2 q3 q4 q5 q6 q7 q8 q9 q10
      obtain ⟨i1, i2, i3⟩ := HIx.out
      dsimp only at i1 i2 i3
      have I1 := hid i1
      have I2 := hid i2
      have I3 := hid i3
      have ht3 : tri ⟨kd, nr, co, iv, ni, ka, kb, kc, st, un, ac⟩ = (kd, nr, co) := rfl
      rw [ht3] at HNx HTx HAx
      have hgl : g < wr.heap.size := cell_lt q0
      have hol : o < wr.heap.size := HS.out.lt
      obtain ⟨W2, hW2⟩ : ∃ W2, (wr.alloc (.cells #[.int .i64 kd, .int .i64 nr, .int .i64 co, .int .i64 iv, .int .i64 ni, .int .i64 ka, .int .i64 kb, .int .i64 kc, .int .i64 st, .int .i64 un, .int .i64 ac] 46)).alloc (.cells #[.int .i64 kd, .int .i64 nr, .int .i64 co] 56) = W2 := ⟨_, rfl⟩
      have HW2 := hid hW2
      have hUp : Up wr W2 := by rw [← hW2]; exact ((Up.refl wr).alloc _).alloc _
      have HS2 := hid (HS.out.up hUp)
      have HU2 := hid (HU.out.trans hUp)
      have HB2 : Hid (Blk W2 (wr.heap.size + 1) 56 #[.int .i64 kd, .int .i64 nr, .int .i64 co]) := hid (by rw [← hW2]; exact Blk.new (by simp) rfl)
      have k0 := HB2.out.val (i := 0) rfl
      have k1 := HB2.out.val (i := 1) rfl
      have k2 := HB2.out.val (i := 2) rfl
      clear hW2 hUp i1 i2 i3 HIx
      by_cases hc : (S i).contains (kd, nr, co) = true
      · have hT : T = true := HTx.out hc
        subst hT
        generalize (S i) = Si at *
        go_wp2_with (at_lookup; rw [HW2.out]; refine wp_lookS rfl _ _ rfl o i Si rfl HS2.out kd nr co I1.out I2.out I3.out rfl ?_; rw [hc])
        go_ret
        exact ⟨rfl, HU2.out⟩
      · have hc' : (S i).contains (kd, nr, co) = false := by simpa using hc
        have HA2 := hid (HAx.out hc')
        have HSn : Hid (S (i + 1) = (kd, nr, co) :: S i) := HNx
        clear hc
        go_wp2_with (first
          | (at_lookup; rw [HW2.out]; refine wp_lookS rfl _ _ rfl o i (S i) rfl HS2.out kd nr co I1.out I2.out I3.out rfl ?_; rw [hc'])
          | (at_mapUpdate; refine wp_putS rfl _ _ _ rfl o i (S i) rfl HS2.out (by omega) kd nr co I1.out I2.out I3.out rfl rfl ?_; intro w3 hS3 hg3; rw [← HSn.out] at hS3))
        have HS3 := hid hS3
        have HU3 := hid (SetAt.grownUp HU2.out (by have := HO.out; omega) hg3 HS2.out)
        clear hS3 hg3 k0 k1 k2 q0 q1 q2 q3 q4 q5 q6 q7 q8 q9 q10
        go_roundw
        case rel => exact ⟨i + 1, by omega, by go_num, HA2, HS3, HU3⟩
        case measure => simp [intOf]; omega
    · obtain rfl : i = m := by omega
      have hT : T = false := HF.out (fun j hj => HA.out j hj)
      subst hT
      go_wp2
      go_ret
      exact ⟨rfl, HU.out⟩
end Go.Proofs.YtkimojconidhlaaDoor
namespace Go.Proofs.YtkimojconidhlaaDoor
open Go.RowKit Go.Sp
set_option maxHeartbeats 4000000
set_option maxRecDepth 20000

/-- The cells of a writer: the transcript, and the error. -/
def wriA (h : Nat → Int) (c e : Int) : Array Value := (drwA h c).push (.int .i64 e)
theorem wriA_err (h : Nat → Int) (c e : Int) : (wriA h c e)[33]? = some (.int .i64 e) := by
  have : (drwA h c).size = 33 := drwA_size h c
  rw [wriA, Array.getElem?_push, if_pos (by rw [this])]
theorem wriA_drw (h : Nat → Int) (c e : Int) {j : Nat} (hj : j < 33) : (wriA h c e)[j]? = (drwA h c)[j]? := by
  have : (drwA h c).size = 33 := drwA_size h c
  rw [wriA, Array.getElem?_push, if_neg (by rw [this]; omega)]
theorem wriA_size (h : Nat → Int) (c e : Int) : (wriA h c e).size = 34 := by simp [wriA, drwA_size]
theorem wri_range {w : World} {b : Nat} {t : TypeId} {h : Nat → Int} {c e : Int} (hb : Blk w b t (wriA h c e)) : w.rangeAt b 0 (drwA h c).toList := fun j v hv => by
  rw [Nat.zero_add, hb.read]
  have hj : j < 33 := by
    have := (List.getElem?_eq_some_iff.1 hv).1
    rw [Array.length_toList, drwA_size] at this
    exact this
  rw [wriA_drw _ _ _ hj, ← hv, Array.getElem?_toList]

theorem setCells_tail {g : Nat} {t : TypeId} (tail : List Value) : ∀ (cs pre post : List Value) (w : World), w.heap[g]? = some (.cells (pre ++ (post ++ tail)).toArray t (0, 0)) → post.length = cs.length →
    (w.setCells g pre.length cs).heap[g]? = some (.cells (pre ++ (cs ++ tail)).toArray t (0, 0))
  | [], pre, post, w, h, hl => by
    have : post = [] := List.length_eq_zero_iff.1 hl
    subst this
    exact h
  | v :: cs, pre, [], w, _, hl => by simp at hl
  | v :: cs, pre, p :: post, w, h, hl => by
    have h1 := heap_setCell_same w g pre.length _ t v h
    have e : ((pre ++ (p :: post ++ tail)).toArray.setIfInBounds pre.length v) = ((pre ++ [v]) ++ (post ++ tail)).toArray := by
      simp
    rw [e] at h1
    have := setCells_tail tail cs (pre ++ [v]) post _ h1 (by simpa using hl)
    rw [World.setCells]
    simpa using this

theorem wri_put {w : World} {b : Nat} {t : TypeId} {h h' : Nat → Int} {c c' e : Int} (hb : Blk w b t (wriA h c e)) : Blk (w.setCells b 0 (drwA h' c').toList) b t (wriA h' c' e) := by
  have e1 : wriA h c e = ([] ++ ((drwA h c).toList ++ [Value.int .i64 e])).toArray := by
    apply Array.toList_inj.1
    simp [wriA]
  have hb' : w.heap[b]? = some (.cells ([] ++ ((drwA h c).toList ++ [Value.int .i64 e])).toArray t (0, 0)) := by
    have h0 : w.heap[b]? = some (.cells (wriA h c e) t (0, 0)) := hb
    rw [h0, ← e1]
  have := setCells_tail (g := b) (t := t) [Value.int .i64 e] (drwA h' c').toList [] (drwA h c).toList w hb' (by rw [Array.length_toList, Array.length_toList, drwA_size, drwA_size])
  show (w.setCells b 0 (drwA h' c').toList).heap[b]? = some (.cells (wriA h' c' e) t (0, 0))
  have e2 : ([] ++ ((drwA h' c').toList ++ [Value.int .i64 e])).toArray = wriA h' c' e := by
    apply Array.toList_inj.1
    simp [wriA]
  rw [e2] at this
  exact this

theorem grown_sets {a : World} {b : Nat} : ∀ (cs : List Value) (i : Nat) {w : World}, a.grownBy w (some b) → a.grownBy (w.setCells b i cs) (some b)
  | [], _, _, h => h
  | v :: cs, i, w, h => by
    rw [World.setCells]
    exact grown_sets cs (i + 1) (grown_set h i v)

theorem wriA_zero (h : Nat → Int) (c : Int) : (wriA h c 0).setIfInBounds 33 (.int .i64 0) = wriA h c 0 := by
  apply Array.ext_getElem?
  intro j
  rw [Array.getElem?_setIfInBounds, wriA_size]
  by_cases hj : 33 = j
  · subst hj
    rw [if_pos rfl, if_pos (by omega), wriA_err]
  · rw [if_neg hj]

theorem wints_ok (h : Nat → Int) (c : Int) (s : ByteArray) (v : Value) (xs : List Int) (b : Nat) (w : World) (hT : TabS w) (hB : Byt h) (c0 : 0 ≤ c) (c1 : c < 999) (hs : Lab s) (hv : IntsAt w v xs) (hl : xs.length ≤ 1000) (hb : Blk w b 110 (wriA h c 0)) :
    Calls Tryd.prog 55 #[.pointer (some ⟨b, 0, none⟩), .string s, v] w fun e w' => e = .returned (.pointer (some ⟨b, 0, none⟩)) ∧ Blk w' b 110 (wriA (absB h (txt s) (encInts xs)) (c + 1) 0) ∧ w.grownBy w' (some b) := by
  have M := hid (fun w' (hU : Up w w') => tInts_ok h c s v xs w' (hT.up hU) hB c0 (by omega) hs (hv.up hU) hl)
  generalize absB h (txt s) (encInts xs) = H at *
  have hsd : (Tryd.prog.info? 108).map (·.size) = some (drwA h c).toList.length := by rw [Array.length_toList, drwA_size]; kernel_rfl
  have HSd := hid hsd
  have HSd2 := hid (sizeTr H (c + 1))
  obtain ⟨av, nv, cv, rfl⟩ := ints_shape hv
  have q33 := hb.val (wriA_err h c 0)
  have HB := hid hb
  unfold drw at M
  clear hT hB hs hv hl hsd hb
  go_enter Tryd.func55, Tryd.ntmps55
  go_wp2_with (refine wpList_load_mid rfl 108 _ rfl b 0 rfl (drwA h c).toList _ (wri_range HB.out) Tryd.underlying108 rfl HSd.out ?_; rw [Array.toArray_toList])
  refine (M.out _ (Up.refl _)).mono ?_
  rintro e w1 ⟨rfl, hU1⟩
  have HB1 := hid (HB.out.up hU1)
  have HG1 := hid (grown_up (b := b) hU1)
  clear hU1 q33
  have hB2 : Blk (w1.setCells b 0 (drwA H (c + 1)).toList) b 110 (wriA H (c + 1) 0) := wri_put HB1.out
  have hG2 := grown_sets (drwA H (c + 1)).toList 0 HG1.out
  have q33 := hB2.val (wriA_err H (c + 1) 0)
  have y33 := hB2.thawed 33
  have HB2 := hid hB2
  have HG2 := hid hG2
  have HTh := hid ((Blk.there HB1.out (n := 33) (by rw [wriA_size]; omega)))
  clear hB2 hG2
  go_wp2_with (refine wpList_store_mid rfl 108 _ _ rfl b 0 (drwA H (c + 1)) rfl rfl (by rw [drwA_size]; exact HTh.out) HSd2.out (drwA_one _ _) ?_)
  go_ret
  refine ⟨rfl, ?_, grown_set HG2.out 33 _⟩
  have := HB2.out.wrote 33 (.int .i64 0)
  rw [wriA_zero] at this
  exact this

theorem wbytes_ok (h : Nat → Int) (c : Int) (s : ByteArray) (v : Value) (xs : List Int) (b : Nat) (w : World) (hT : TabS w) (hB : Byt h) (c0 : 0 ≤ c) (c1 : c < 999) (hs : Lab s) (hv : SeqAt .u8 w v xs) (hl : xs.length ≤ 1000) (hx : ∀ x ∈ xs, 0 ≤ x ∧ x ≤ 255) (hb : Blk w b 110 (wriA h c 0)) :
    Calls Tryd.prog 56 #[.pointer (some ⟨b, 0, none⟩), .string s, v] w fun e w' => e = .returned (.pointer (some ⟨b, 0, none⟩)) ∧ Blk w' b 110 (wriA (absB h (txt s) (encBytes xs)) (c + 1) 0) ∧ w.grownBy w' (some b) := by
  have M := hid (fun w' (hU : Up w w') => tAbsorb_ok h c s 2 0 v nilS (encBytes xs) w' (hT.up hU) hB c0 (by omega) hs (itm_bytes (hv.up hU) (by omega) hx 6) (by rw [encBytes_length]; omega) (encBytes_byt hx))
  generalize absB h (txt s) (encBytes xs) = H at *
  have hsd : (Tryd.prog.info? 108).map (·.size) = some (drwA h c).toList.length := by rw [Array.length_toList, drwA_size]; kernel_rfl
  have HSd := hid hsd
  have HSd2 := hid (sizeTr H (c + 1))
  obtain ⟨av, cv, rfl, _, _⟩ := hv.shape
  have q33 := hb.val (wriA_err h c 0)
  have HB := hid hb
  unfold drw at M
  clear hT hB hs hv hl hx hsd hb
  go_enter Tryd.func56, Tryd.ntmps56
  go_wp2_with (refine wpList_load_mid rfl 108 _ rfl b 0 rfl (drwA h c).toList _ (wri_range HB.out) Tryd.underlying108 rfl HSd.out ?_; rw [Array.toArray_toList])
  refine (M.out _ (Up.refl _)).mono ?_
  rintro e w1 ⟨rfl, hU1⟩
  have HB1 := hid (HB.out.up hU1)
  have HG1 := hid (grown_up (b := b) hU1)
  clear hU1 q33
  have hB2 : Blk (w1.setCells b 0 (drwA H (c + 1)).toList) b 110 (wriA H (c + 1) 0) := wri_put HB1.out
  have hG2 := grown_sets (drwA H (c + 1)).toList 0 HG1.out
  have q33 := hB2.val (wriA_err H (c + 1) 0)
  have y33 := hB2.thawed 33
  have HB2 := hid hB2
  have HG2 := hid hG2
  have HTh := hid ((Blk.there HB1.out (n := 33) (by rw [wriA_size]; omega)))
  clear hB2 hG2
  go_wp2_with (refine wpList_store_mid rfl 108 _ _ rfl b 0 (drwA H (c + 1)) rfl rfl (by rw [drwA_size]; exact HTh.out) HSd2.out (drwA_one _ _) ?_)
  go_ret
  refine ⟨rfl, ?_, grown_set HG2.out 33 _⟩
  have := HB2.out.wrote 33 (.int .i64 0)
  rw [wriA_zero] at this
  exact this

end Go.Proofs.YtkimojconidhlaaDoor
