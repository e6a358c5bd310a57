/- Signed lists of records among the arguments. Package epoch: valid, twice, message. Package epoch: message, Verify. Package epoch: Verify. The reference of package epoch: All, Twice, Message, Verify. -/
import Derived.Test.YtoaomjdpiealfaaGreatDoorMB19
import Derived.Test.YtoaomjdpiealfaaGreatDoorMB30
import Derived.Test.YtoaomjdpiealfaaGreatDoorMB9
import Derived.Test.YtoaomjdpiealfaaGreatDoorMB16
import Derived.Test.YtoaomjdpiealfaaGreatDoorMB21
import Derived.Test.YtoaomjdpiealfaaGreatDoorMB25
import Derived.Test.YtoaomjdpiealfaaGreatDoorMB22
import Derived.Test.YtoaomjdpiealfaaGreatDoorMB26
import Derived.Test.YtoaomjdpiealfaaGreatDoorMB13
namespace Go.Proofs.YtoaomjdpiealfaaGreatDoor
open Go.ChangeShapes Go.WideShapes Go.ChangeAt Go.RowKit Go.Sp Go.Joins Go.Deep
set_option maxHeartbeats 2000000

set_option maxRecDepth 100000 in
theorem open_klist {H : Type} {enc : TypeId × Value → H} {b0 base : Nat} {w : World} {v : Value} {d : DataW H} {p : List MemPlace}
    (hv : Value.okWide Tryz.prog w .any b0 71 v) (h : DataW.Trod enc Tryz.prog w base (fun _ => true) true 71 v d p) :
    ∃ (u : Value) (x0 x1 : Int) (l : List Rec), v = .agg #[u, .int .i64 x0, .int .i64 x1] ∧ RecsAt w u l ∧ NilOr u ∧ ∀ r ∈ l, RecI r := by
  obtain ⟨cs, rfl, hsz⟩ := okWide_struct Tryz.underlying71 hv
  have hC : Tryz.prog.cellsOf 71 = 3 := by kernel_rfl
  have hC1 : Tryz.prog.cellsOf 69 = 1 := by kernel_rfl
  have hC2 : Tryz.prog.cellsOf 36 = 2 := by kernel_rfl
  obtain ⟨l⟩ := cs
  match l, hsz.trans hC with
  | [c0, c1, c2], _ =>
    obtain ⟨fuel, hf⟩ := h
    obtain ⟨xs, n, _, hx, _, hlen, hg⟩ := DataW.trod_struct Tryz.underlying71 hf
    match xs, hlen with
    | [y0, y1], _ =>
      have f0 := hg 0 _ rfl
      have f1 := hg 1 _ rfl
      simp [hC1, hC2, Value.cells] at f0 f1
      obtain ⟨zs, m, _, hz, _, hzl, hzg⟩ := DataW.trod_struct Tryz.underlying36 f1
      match zs, hzl with
      | [z0, z1], _ =>
        have e0 := hzg 0 _ rfl
        have e1 := hzg 1 _ rfl
        simp [cellsInt] at e0 e1
        obtain ⟨q1, h1, _, _⟩ := DataW.trod_int Tryz.underlying3 e0
        obtain ⟨q2, h2, _, _⟩ := DataW.trod_int Tryz.underlying3 e1
        try simp at h1 h2
        subst h1 h2
        have hs : ∃ a len cap, c0 = .slice a len cap := by
          rcases open_slice Tryz.underlying69 f0 with ⟨hcs, _⟩ | ⟨a, len', cap', m, n, D, Pl, hcs, _⟩
          · simp at hcs; exact ⟨_, _, _, hcs⟩
          · simp at hcs; exact ⟨_, _, _, hcs⟩
        obtain ⟨l, hl, hn, hr⟩ := recs_open hs f0
        exact ⟨c0, q1, q2, l, rfl, hl, hn, hr⟩
end Go.Proofs.YtoaomjdpiealfaaGreatDoor
namespace Go.Proofs.YtoaomjdpiealfaaGreatDoor
open Go.RowKit Go.Sp
set_option maxHeartbeats 4000000
set_option maxRecDepth 20000

/-- Is the record valid? -/
def recR (P Q G A B C : Int) (r : Rec) : Bool := recB P Q G A B C r.kd r.nr r.co r.iv r.ni r.ka r.kb r.kc r.st r.un r.ac
theorem valid1_any (P Q G A B C : Int) (r : Rec) (g : Nat) (w : World) (hP : -9223372036854775808 ≤ P) (hQ : Q ≤ 9223372036854775807) (hT : Tab w) (hb : BasAt w g P Q G A B C) :
    Calls Tryz.prog 126 (#[r.val] ++ #[.pointer (some ⟨g, 0, none⟩)]) w fun e w' => e = .returned (.bool (!recR P Q G A B C r)) ∧ Up w w' := by
  obtain ⟨kd, nr, co, iv, ni, ka, kb, kc, st, un, ac⟩ := r
  have M1 := hid (fun w' (hU : Up w w') => eValid_any P Q G A B C kd nr co iv ni ka kb kc st un ac w' hP hQ (hT.up hU))
  have HB := hid hb
  unfold recR
  generalize recB P Q G A B C kd nr co iv ni ka kb kc st un ac = T at *
  unfold Rec.val epo epoA
  unfold epo epoA at M1
  dsimp only
  rw [show #[Value.agg #[.int .i64 kd, .int .i64 nr, .int .i64 co, .int .i64 iv, .int .i64 ni, .int .i64 ka, .int .i64 kb, .int .i64 kc, .int .i64 st, .int .i64 un, .int .i64 ac]] ++ #[.pointer (some ⟨g, 0, none⟩)] = #[.agg #[.int .i64 kd, .int .i64 nr, .int .i64 co, .int .i64 iv, .int .i64 ni, .int .i64 ka, .int .i64 kb, .int .i64 kc, .int .i64 st, .int .i64 un, .int .i64 ac], .pointer (some ⟨g, 0, none⟩)] from rfl]
  obtain ⟨⟨c0, c1, c2⟩, c3, c4, c5⟩ := hb
  have hl := cell_lt c0
  clear hT HB
  go_enter Tryz.func126, Tryz.ntmps126
  go_wp2_with fail
  refine (M1.out _ ((Up.refl w).alloc _)).mono ?_
  rintro e w1 ⟨rfl, hU1⟩
  have HU1 := hid (((Up.refl w).alloc _).trans hU1)
  clear hU1 c0 c1 c2 c3 c4 c5
  go_wp2
  go_ret
  exact ⟨rfl, HU1.out⟩

/-- Are all records valid? -/
def allR (P Q G A B C : Int) (l : List Rec) : Bool := !l.any fun r => !recR P Q G A B C r
theorem evalid_any (P Q G A B C : Int) (v : Value) (l : List Rec) (w : World) (hP : -9223372036854775808 ≤ P) (hQ : Q ≤ 9223372036854775807) (hT : Tab w) (hv : RecsAt w v l) :
    Calls Tryz.prog 65 #[bas P Q G A B C, v] w fun e w' => e = .returned (.bool (allR P Q G A B C l)) ∧ Up w w' := by
  have HT := hid hT
  have HV := hid hv
  obtain ⟨_, a, cp, rfl, _⟩ := hv
  obtain ⟨o, ho⟩ : ∃ o, w.heap.size = o := ⟨_, rfl⟩
  have HO := hid ho
  obtain ⟨T, hTT⟩ : ∃ T, (l.any fun r => !recR P Q G A B C r) = T := ⟨_, rfl⟩
  have HTT := hid hTT
  unfold allR
  rw [hTT]
  clear hT ho hTT
  go_enter Tryz.func65, Tryz.ntmps65
  go_wp2_with fail
  have hA := nums_six (w := w) (t := 49) (x := P) (y := Q) (z := G) (a := A) (b := B) (c := C) HO.out
  have hU0 := (Up.refl w).alloc (.cells #[.int .i64 P, .int .i64 Q, .int .i64 G, .int .i64 A, .int .i64 B, .int .i64 C] 49)
  rw [HO.out]
  generalize w.alloc (.cells #[.int .i64 P, .int .i64 Q, .int .i64 G, .int .i64 A, .int .i64 B, .int .i64 C] 49) = w0 at *
  refine (ContainsFuncK 126 #[.pointer (some ⟨o, 0, none⟩)] (fun r => !recR P Q G A B C r) _ l w0 (HV.out.up hU0) (fun _ _ => by kernel_rfl) (fun x _ w' hU' => valid1_any P Q G A B C x o w' hP hQ (HT.out.up (hU0.trans hU')) (hA.up hU'))).mono ?_
  rintro e w1 ⟨rfl, hU1⟩
  rw [HTT.out]
  have HU1 := hid (hU0.trans hU1)
  clear hU1 hU0 hA
  go_wp2
  go_ret
  exact ⟨rfl, HU1.out⟩

/-- The three numbers of a record. -/
def tri (r : Rec) : Tri := (r.kd, r.nr, r.co)
/-- The numbers that were seen ahead of the i-th record, the last first. -/
def seenL (l : List Rec) (i : Nat) : List Tri := ((l.take i).map tri).reverse
def twB (l : List Rec) : Bool := (List.range l.length).any fun i => (seenL l i).contains (tri (l.getD i rec0))
theorem seenL_succ {l : List Rec} {i : Nat} (h : i < l.length) : seenL l (i + 1) = tri (l.getD i rec0) :: seenL l i := by
  unfold seenL
  rw [List.take_succ_eq_append_getElem h, List.map_append, List.reverse_append]
  simp [h]
theorem twB_true {l : List Rec} {i : Nat} (hi : i < l.length) (h : (seenL l i).contains (tri (l.getD i rec0)) = true) : twB l = true := by
  unfold twB
  rw [List.any_eq_true]
  exact ⟨i, List.mem_range.2 hi, h⟩
theorem twB_false {l : List Rec} (h : ∀ i, i < l.length → (seenL l i).contains (tri (l.getD i rec0)) = false) : twB l = false := by
  unfold twB
  rw [List.any_eq_false]
  intro i hi
  rw [h i (List.mem_range.1 hi)]
  simp

theorem SetAt.grownUp {w0 w w' : World} {b n : Nat} {S : List Tri} (hU : Up w0 w) (hb : w0.heap.size ≤ b) (hg : w.grownBy w' (some b)) (_h : SetAt w b n S) : Up w0 w' := up_grown hU hg (fun k hk => by injection hk; omega)

theorem twice_any (v : Value) (l : List Rec) (w : World) (hv : RecsAt w v l) (hl : l.length ≤ 1000) (hI : ∀ r ∈ l, I64 r.kd ∧ I64 r.nr ∧ I64 r.co) :
    Calls Tryz.prog 66 #[v] w fun e w' => e = .returned (.bool (twB l)) ∧ Up w w' := by
  have HV := hid hv
  have HI := hid hI
  have HT := hid (fun (i : Nat) (hi : i < l.length) => (twB_true hi : (seenL l i).contains (tri (l.getD i rec0)) = true → twB l = true))
  have HF := hid (twB_false (l := l))
  have HN := hid (fun (i : Nat) (hi : i < l.length) => seenL_succ hi)
  obtain ⟨T, hT⟩ : ∃ T, twB l = T := ⟨_, rfl⟩
  rw [hT] at HT HF ⊢
  obtain ⟨_, a, cp, rfl, _⟩ := hv
  obtain ⟨m, hm⟩ : ∃ m, l.length = m := ⟨_, rfl⟩
  have HM := hid hm
  rw [hm] at HV hl HT HF HN ⊢
  clear hI hm hT
  obtain ⟨S, hS⟩ : ∃ S : Nat → List Tri, seenL l = S := ⟨_, rfl⟩
  have hS0 : S 0 = [] := by rw [← hS]; rfl
  rw [hS] at HT HF HN
  clear hS
  have hmm := @run_makeMap Tryz.prog
  obtain ⟨o, ho⟩ : ∃ o, w.heap.size = o := ⟨_, rfl⟩
  have HO := hid ho
  clear ho
  go_enter Tryz.func66, Tryz.ntmps66
  go_wp2_with fail
  clear hmm
  have HS0 := hid (SetAt.made w)
  have HU0 := hid ((Up.refl w).alloc (.map #[] 0))
  rw [HO.out] at HS0
  rw [HO.out]
  go_loopw [10] (fun vi wr => ∃ i : Nat, i ≤ m ∧ vi = .int .i64 i ∧ Hid (∀ j, j < i → (S j).contains (tri (l.getD j rec0)) = false) ∧ Hid (SetAt wr o i (S i)) ∧ Hid (Up w wr)) (fun vi _ => m - (intOf vi).toNat)
  case atStart => exact ⟨0, by omega, rfl, hid (fun j hj => by omega), hid (hS0.symm ▸ HS0.out), HU0⟩
  case round =>
    clear HS0 HU0
    obtain ⟨i, hi, rfl, HA, HS, HU⟩ := hrel
    by_cases hlt : i < m
    · have hlx : i < l.length := by rw [HM.out]; exact hlt
      obtain ⟨g, off, rfl, hx2⟩ := recs_cell HV.out HU.out hlx
      have HIx := hid (HI.out _ (recs_mem hlx))
      have HNx := hid (HN.out i hlt)
      have HTx := hid (HT.out i hlt)
      have HAx := hid (fun (h : (S i).contains (tri (l.getD i rec0)) = false) => (fun j (hj : j < i + 1) => by
        by_cases he : j < i
        · exact HA.out j he
        · obtain rfl : j = i := by omega
          exact h : ∀ j, j < i + 1 → (S j).contains (tri (l.getD j rec0)) = false))
      clear hlx
      generalize l.getD i rec0 = x at HIx HNx HTx HAx hx2
      obtain ⟨q0, q1, q2, q3, q4, q5, q6, q7, q8, q9, q10⟩ := hx2
      obtain ⟨kd, nr, co, iv, ni, ka, kb, kc, st, un, ac⟩ := x
      dsimp only at q0 q1 q2 q3 q4 q5 q6 q7 q8 q9 q10
      obtain ⟨i1, i2, i3⟩ := HIx.out
      dsimp only at i1 i2 i3
      have I1 := hid i1
      have I2 := hid i2
      have I3 := hid i3
      have ht3 : tri ⟨kd, nr, co, iv, ni, ka, kb, kc, st, un, ac⟩ = (kd, nr, co) := rfl
      rw [ht3] at HNx HTx HAx
      have hgl : g < wr.heap.size := cell_lt q0
      have hol : o < wr.heap.size := HS.out.lt
      obtain ⟨W2, hW2⟩ : ∃ W2, (wr.alloc (.cells #[.int .i64 kd, .int .i64 nr, .int .i64 co, .int .i64 iv, .int .i64 ni, .int .i64 ka, .int .i64 kb, .int .i64 kc, .int .i64 st, .int .i64 un, .int .i64 ac] 112)).alloc (.cells #[.int .i64 kd, .int .i64 nr, .int .i64 co] 167) = W2 := ⟨_, rfl⟩
      have HW2 := hid hW2
      have hUp : Up wr W2 := by rw [← hW2]; exact ((Up.refl wr).alloc _).alloc _
      have HS2 := hid (HS.out.up hUp)
      have HU2 := hid (HU.out.trans hUp)
      have HB2 : Hid (Blk W2 (wr.heap.size + 1) 167 #[.int .i64 kd, .int .i64 nr, .int .i64 co]) := hid (by rw [← hW2]; exact Blk.new (by simp) rfl)
      have k0 := HB2.out.val (i := 0) rfl
      have k1 := HB2.out.val (i := 1) rfl
      have k2 := HB2.out.val (i := 2) rfl
      clear hW2 hUp i1 i2 i3 HIx
      by_cases hc : (S i).contains (kd, nr, co) = true
      · have hT : T = true := HTx.out hc
        subst hT
        generalize (S i) = Si at *
        go_wp2_with (at_lookup; rw [HW2.out]; refine wp_lookS rfl _ _ rfl o i Si rfl HS2.out kd nr co I1.out I2.out I3.out rfl ?_; rw [hc])
        go_ret
        exact ⟨rfl, HU2.out⟩
      · have hc' : (S i).contains (kd, nr, co) = false := by simpa using hc
        have HA2 := hid (HAx.out hc')
        have HSn : Hid (S (i + 1) = (kd, nr, co) :: S i) := HNx
        clear hc
        go_wp2_with (first
          | (at_lookup; rw [HW2.out]; refine wp_lookS rfl _ _ rfl o i (S i) rfl HS2.out kd nr co I1.out I2.out I3.out rfl ?_; rw [hc'])
          | (at_mapUpdate; refine wp_putS rfl _ _ _ rfl o i (S i) rfl HS2.out (by omega) kd nr co I1.out I2.out I3.out rfl rfl ?_; intro w3 hS3 hg3; rw [← HSn.out] at hS3))
        have HS3 := hid hS3
        have HU3 := hid (SetAt.grownUp HU2.out (by have := HO.out; omega) hg3 HS2.out)
        clear hS3 hg3 k0 k1 k2 q0 q1 q2 q3 q4 q5 q6 q7 q8 q9 q10
        go_roundw
        case rel => exact ⟨i + 1, by omega, by go_num, HA2, HS3, HU3⟩
        case measure => simp [intOf]; omega
    · obtain rfl : i = m := by omega
      have hT : T = false := HF.out (fun j hj => HA.out j hj)
      subst hT
      go_wp2
      go_ret
      exact ⟨rfl, HU.out⟩
end Go.Proofs.YtoaomjdpiealfaaGreatDoor
namespace Go.Proofs.YtoaomjdpiealfaaGreatDoor
open Go.RowKit Go.Sp
set_option maxHeartbeats 4000000
set_option maxRecDepth 20000

/-- The length and the room of a slice. -/
def CapOk (v : Value) (n : Nat) : Prop := ∃ a cap, v = .slice a n cap ∧ n ≤ cap ∧ cap ≤ 9223372036854775807 ∧ (a = none → cap = 0)
theorem ownQ_cap {e : TypeId} {w : World} {base : Nat} {v : Value} {qs : List Quad} (h : OwnQ e w base v qs) : CapOk v qs.length := by
  rcases h.2 with ⟨hv, hn⟩ | ⟨g, cap, cur, rfl, hb, hg, hn, hm, _⟩
  · exact ⟨none, 0, by rw [hv, hn], by omega, by omega, fun _ => rfl⟩
  · exact ⟨_, cap, rfl, hn, by unfold maxLen at hm; omega, fun h => by cases h⟩
theorem IntItems.itm {w : World} {v : Value} {xs : List Int} (h : IntItems w v xs) (hc : CapOk v xs.length) (hl : xs.length ≤ 1000) : ItmAt w 1 3 0 nilS v (encInts xs) := by
  obtain ⟨a, cap, rfl, h1, h2, h3⟩ := hc
  refine itm_list ⟨a, cap, by rw [List.length_map], by rw [List.length_map]; exact h1, h2, h3, fun i hi => ?_⟩ (by rw [List.length_map]; exact hl)
  rw [List.length_map] at hi
  obtain ⟨b, rfl, hcell⟩ := ints_items h (Up.refl w) hi
  refine ⟨b, 0, 1, xs.getD i 0, nilS, nilS, rfl, by rw [Nat.zero_add]; exact hcell, ?_⟩
  rw [show (xs.map encInt).getD i [] = encInt (xs.getD i 0) by simp [hi]]
  exact itm_int w _ 0
theorem IntItems.grown {w w' : World} {v : Value} {xs : List Int} {row : Option Nat} (h : IntItems w v xs) (hg : w.grownBy w' row) (hne : xs ≠ [] → ∀ b n c, v = .slice (some ⟨b, 0, none⟩) n c → some b ≠ row) : IntItems w' v xs := by
  obtain ⟨a, cap, rfl, h1⟩ := h
  refine ⟨a, cap, rfl, fun hx => ?_⟩
  obtain ⟨b, rfl, hc⟩ := h1 hx
  have hb := hne hx b _ _ rfl
  refine ⟨b, rfl, fun i hi => ?_⟩
  obtain ⟨c0, c1, c2, c3⟩ := hc i hi
  have hk := hg.block b (cell_in c0) hb
  exact ⟨by rw [World.cell?_of_block (w := w) hk]; exact c0, by rw [World.cell?_of_block (w := w) hk]; exact c1, by rw [World.cell?_of_block (w := w) hk]; exact c2, by rw [World.cell?_of_block (w := w) hk]; exact c3⟩
/-- A list's items are those of integers do not lie in a list of lists. -/
theorem ints_apart {e : TypeId} {w : World} {base : Nat} {u v : Value} {qs : List Quad} {xs : List Int} (h : IntItems w v xs) (ho : OwnQ e w base u qs) (hk : ∀ q ∈ qs, q.k = 3) (hq0 : qs ≠ []) (hx : xs ≠ []) (b n c : Nat) (hv : v = .slice (some ⟨b, 0, none⟩) n c) : some b ≠ u.ownBlock := by
  intro he
  obtain ⟨a, cap, hv2, h1⟩ := h
  obtain ⟨b', ha, hc⟩ := h1 hx
  subst hv
  injection hv2 with e1 e2 e3
  rw [← e1] at ha
  injection ha with ha
  injection ha with ha
  subst ha
  have h0 := (hc 0 (by cases xs with | nil => exact absurd rfl hx | cons x xs => simp)).1
  have hh := ho
  rcases ho.2 with ⟨rfl, _⟩ | ⟨g, cap', cur, rfl, _, hg, _⟩
  · simp [Value.ownBlock] at he
  · simp [Value.ownBlock] at he
    subst he
    cases qs with
    | nil => exact absurd rfl hq0
    | cons q qs =>
      have hq := World.ownsRow.cellAt hh 0 (by simp)
      rw [show 0 * 4 = 0 from rfl, hq] at h0
      simp [Quad.cells] at h0
      have := hk q (by simp)
      omega
/-- Items that are the records of a list. -/
def LstAt (w : World) (qs : List Quad) (l : List Rec) : Prop := qs.length = l.length ∧ ∀ j (h : j < qs.length), ∃ v, qs[j] = ⟨3, 0, nilS, v⟩ ∧ IntItems w v (l.getD j rec0).nums ∧ CapOk v 11
theorem LstAt.up {w w' : World} {qs : List Quad} {l : List Rec} (h : LstAt w qs l) (hU : Up w w') : LstAt w' qs l := by
  refine ⟨h.1, fun j hj => ?_⟩
  obtain ⟨v, h1, h2, h3⟩ := h.2 j hj
  exact ⟨v, h1, h2.up hU, h3⟩
theorem LstAt.three {w : World} {qs : List Quad} {l : List Rec} (h : LstAt w qs l) : ∀ q ∈ qs, q.k = 3 := by
  intro q hq
  obtain ⟨j, hj, rfl⟩ := List.getElem_of_mem hq
  obtain ⟨v, h1, _⟩ := h.2 j hj
  rw [h1]
theorem LstAt.grown {e : TypeId} {w w' : World} {base : Nat} {u : Value} {qs : List Quad} {l : List Rec} (h : LstAt w qs l) (ho : OwnQ e w base u qs) (hg : w.grownBy w' u.ownBlock) : LstAt w' qs l := by
  refine ⟨h.1, fun j hj => ?_⟩
  obtain ⟨v, h1, h2, h3⟩ := h.2 j hj
  exact ⟨v, h1, h2.grown hg (fun hx b n c hv => ints_apart h2 ho h.three (by rintro rfl; simp at hj) hx b n c hv), h3⟩
theorem ownQ_lt {e : TypeId} {w : World} {base b : Nat} {u : Value} {qs : List Quad} (ho : OwnQ e w base u qs) (hb : u.ownBlock = some b) : b < w.heap.size := by
  rcases ho.2 with ⟨rfl, _⟩ | ⟨g, cap', cur, rfl, _, hg, _⟩
  · cases hb
  · simp [Value.ownBlock] at hb
    subst hb
    exact (Array.getElem?_eq_some_iff.1 hg).1
theorem ownQ_ge {e : TypeId} {w : World} {base : Nat} {u : Value} {qs : List Quad} (ho : OwnQ e w base u qs) {b n c : Nat} (hv : u = .slice (some ⟨b, 0, none⟩) n c) : base ≤ b := ho.block b (by rw [hv]; rfl)
/-- A list that was made behind another does not lie in it. -/
theorem newer {e e' : TypeId} {w0 w : World} {base b1 : Nat} {u v : Value} {qs qs' : List Quad} (ho : OwnQ e w0 base u qs) (hn : OwnQ e' w b1 v qs') (hb : w0.heap.size ≤ b1) {b n c : Nat} (hv : v = .slice (some ⟨b, 0, none⟩) n c) : some b ≠ u.ownBlock := by
  intro he
  have h1 := ownQ_lt ho he.symm
  have h2 := ownQ_ge hn hv
  omega
theorem LstAt.app {w : World} {qs : List Quad} {l : List Rec} {i : Nat} {v : Value} (h : LstAt w qs (l.take i)) (hi : i < l.length) (hv : IntItems w v (l.getD i rec0).nums) (hc : CapOk v 11) : LstAt w (qs ++ [⟨3, 0, nilS, v⟩]) (l.take (i + 1)) := by
  have hq : qs.length = i := by rw [h.1]; simp; omega
  refine ⟨by rw [List.length_append, hq]; simp; omega, fun j hj => ?_⟩
  rw [List.length_append, List.length_singleton] at hj
  by_cases hj2 : j < qs.length
  · obtain ⟨u, h1, h2, h3⟩ := h.2 j hj2
    refine ⟨u, by rw [List.getElem_append_left hj2]; exact h1, ?_, h3⟩
    rw [show (l.take (i + 1)).getD j rec0 = (l.take i).getD j rec0 by (have a1 : j < i := by omega); (have a2 : j < i + 1 := by omega); simp only [List.getD_eq_getElem?_getD, List.getElem?_take, if_pos a1, if_pos a2]]
    exact h2
  · obtain rfl : j = i := by omega
    refine ⟨v, by rw [List.getElem_append_right (by omega)]; simp, ?_, hc⟩
    rw [show (l.take (j + 1)).getD j rec0 = l.getD j rec0 by simp [List.getD]]
    exact hv
theorem LstAt.quad {w : World} {qs : List Quad} {l : List Rec} (h : LstAt w qs l) : QuadAt w 1 qs (l.map fun r => encInts r.nums) := by
  refine ⟨by rw [List.length_map]; exact h.1, fun j hj => ?_⟩
  obtain ⟨v, h1, h2, h3⟩ := h.2 j hj
  have hjl : j < l.length := by rw [← h.1]; exact hj
  rw [h1, show (l.map fun r => encInts r.nums).getD j [] = encInts (l.getD j rec0).nums by simp [hjl]]
  exact h2.itm h3 (by simp [Rec.nums])
/-- The message of a list of records. -/
def msgR (l : List Rec) : List Int := encList (l.map fun r => encInts r.nums)
theorem msgR_byt (l : List Rec) : ∀ y ∈ msgR l, 0 ≤ y ∧ y ≤ 255 := by
  refine encList_byt fun e he => ?_
  obtain ⟨r, _, rfl⟩ := List.mem_map.1 he
  exact encInts_byt _
theorem msgR_length (l : List Rec) : (msgR l).length = l.length * 104 + 5 := by
  rw [msgR, encList_length]
  congr 1
  induction l with
  | nil => rfl
  | cons x l ih => rw [List.map_cons, List.flatten_cons, List.length_append, ih, encInts_length, List.length_cons]; simp [Rec.nums]; omega
theorem lst_itm {w : World} {base : Nat} {v : Value} {qs : List Quad} {l : List Rec} (ho : OwnQ 142 w base v qs) (h : LstAt w qs l) (hl : l.length ≤ 1000) : ItmAt w 2 3 0 nilS v (msgR l) :=
  itm_list (ho.row h.quad) (by rw [List.length_map]; exact hl)
theorem nilS_own : (nilS : Value).ownBlock = none := rfl

/-- What the loop's region reads. -/
def MsgS (L g i : Nat) (ad : Option Addr) (cp : Nat) (cs : Array Value) (w0 w : World) : Prop := Blk w L 142 #[.int .i64 3, .int .i64 0, nilS, .slice ad i cp] ∧ Blk w g 112 cs ∧ Up w0 w
theorem MsgS.up {L g i : Nat} {ad : Option Addr} {cp : Nat} {cs : Array Value} {w0 w w' : World} (h : MsgS L g i ad cp cs w0 w) (hU : Up w w') : MsgS L g i ad cp cs w0 w' := ⟨h.1.up hU, h.2.1.up hU, h.2.2.trans hU⟩
/-- What message returns. -/
def MsgOut (m : List Int) (w : World) (e : Ending) (w' : World) : Prop :=
  ∃ v, e = .returned (.tuple #[v, .bool (decide (m.length ≤ 16384))]) ∧ SeqAt .u8 w' v (if m.length ≤ 16384 then m else []) ∧ Up w w'
theorem LstAt.set {w : World} {o : Nat} {t : TypeId} {cs : Array Value} {qs : List Quad} {l : List Rec} (h : LstAt w qs l) (hb : Blk w o t cs) (h0 : cs[0]? = some (.int .i64 3)) (x : Value) : LstAt (w.setCell ⟨o, 3, none⟩ x) qs l := by
  refine ⟨h.1, fun j hj => ?_⟩
  obtain ⟨v, h1, ⟨a, cap, rfl, h2⟩, h3⟩ := h.2 j hj
  refine ⟨_, h1, ⟨a, cap, rfl, fun hx => ?_⟩, h3⟩
  obtain ⟨b, rfl, hc⟩ := h2 hx
  have hne : b ≠ o := by
    rintro rfl
    have k0 := (hc 0 (by simp [Rec.nums])).1
    have k1 := hb.val h0
    rw [show 0 * 4 = 0 from rfl, k1] at k0
    simp at k0
  have hk : (w.setCell ⟨o, 3, none⟩ x).heap[b]? = w.heap[b]? := Below.heap_setCell w ⟨o, 3, none⟩ x b hne
  refine ⟨b, rfl, fun i hi => ?_⟩
  obtain ⟨c0, c1, c2, c3⟩ := hc i hi
  exact ⟨by rw [World.cell?_of_block (w := w) hk]; exact c0, by rw [World.cell?_of_block (w := w) hk]; exact c1, by rw [World.cell?_of_block (w := w) hk]; exact c2, by rw [World.cell?_of_block (w := w) hk]; exact c3⟩
theorem ownQ_apart {e t : TypeId} {w : World} {base g : Nat} {v : Value} {qs : List Quad} {cs : Array Value} (h : OwnQ e w base v qs) (hb : Blk w g t cs) (hne : t ≠ e) : some g ≠ v.ownBlock := by
  rcases h.2 with ⟨rfl, _⟩ | ⟨g', cap, cur, rfl, _, hg, _⟩
  · simp [Value.ownBlock]
  · intro he
    simp [Value.ownBlock] at he
    subst he
    have hb' : w.heap[g]? = some (.cells cs t (0, 0)) := hb
    rw [hb'] at hg
    simp only [Option.some.injEq, Obj.cells.injEq] at hg
    exact hne hg.2.1

theorem message_any (v : Value) (l : List Rec) (w : World) (hv : RecsAt w v l) (hl : l.length ≤ 1000) :
    Calls Tryz.prog 67 #[v] w (MsgOut (msgR l) w) := by
  have HV := hid hv
  have HLl := hid hl
  have N1 := hid (fun (x : Rec) w' => eItem_ok x.kd x.nr x.co x.iv x.ni x.ka x.kb x.kc x.st x.un x.ac w')
  obtain ⟨_, a, cpv, rfl, _⟩ := hv
  obtain ⟨m, hm⟩ : ∃ m, l.length = m := ⟨_, rfl⟩
  have HM := hid hm
  rw [hm] at HV hl ⊢
  obtain ⟨o, ho⟩ : ∃ o, w.heap.size = o := ⟨_, rfl⟩
  have HO := hid ho
  obtain ⟨B, hB⟩ : ∃ B, o + 1 = B := ⟨_, rfl⟩
  have HBB := hid hB
  clear hm ho hB
  go_enter Tryz.func67, Tryz.ntmps67
  go_wp2_with fail
  have HL0 : Hid (Blk (w.alloc (.cells #[.int .i64 3, .int .i64 0, nilS, nilS] 142)) o 142 #[.int .i64 3, .int .i64 0, nilS, nilS]) := hid (Blk.new HO.out rfl)
  have HU0 : Hid (Up w (w.alloc (.cells #[.int .i64 3, .int .i64 0, nilS, nilS] 142))) := hid ((Up.refl w).alloc _)
  rw [HO.out]
  rw [show w.alloc (.cells #[.int .i64 3, .int .i64 0, .slice none 0 0, .slice none 0 0] 142) = w.alloc (.cells #[.int .i64 3, .int .i64 0, nilS, nilS] 142) from rfl]
  generalize w.alloc (.cells #[.int .i64 3, .int .i64 0, nilS, nilS] 142) = w0 at *
  go_loopw [12] (fun vi wr => ∃ (i : Nat) (ad : Option Addr) (cp : Nat) (qs : List Quad), i ≤ m ∧ vi = .int .i64 i ∧ Hid (Blk wr o 142 #[.int .i64 3, .int .i64 0, nilS, .slice ad i cp]) ∧ Hid (qs.length = i) ∧ Hid (OwnQ 142 wr B (.slice ad i cp) qs) ∧ Hid (LstAt wr qs (l.take i)) ∧ Hid (Up w wr)) (fun vi _ => m - (intOf vi).toNat)
  case atStart => exact ⟨0, none, 0, [], by omega, rfl, HL0, hid rfl, hid ownQ_none, hid ⟨rfl, fun j hj => by simp at hj⟩, HU0⟩
  case round =>
    clear HL0 HU0
    obtain ⟨i, ad, cp, qs, hi, rfl, HL, HLn, HQ, HLs, HU⟩ := hrel
    have lL : o < wr.heap.size := HL.out.lt
    have hlo2 : o < B := by have := HBB.out; omega
    have hoB : B ≤ o + 1 := by have := HBB.out; omega
    have hwo : w.heap.size ≤ o := by have := HO.out; omega
    by_cases hlt : i < m
    · have hlx : i < l.length := by rw [HM.out]; exact hlt
      obtain ⟨g, off, rfl, hx2⟩ := recs_cell HV.out HU.out hlx
      have M1 := hid (fun w' => N1.out (l.getD i rec0) w')
      have HAp := hid (fun (w' : World) (qs' : List Quad) (v' : Value) (h : LstAt w' qs' (l.take i)) (hv : IntItems w' v' (l.getD i rec0).nums) (hc : CapOk v' 11) => h.app hlx hv hc)
      clear hlx
      generalize l.getD i rec0 = x at *
      obtain ⟨q0, q1, q2, q3, q4, q5, q6, q7, q8, q9, q10⟩ := hx2
      obtain ⟨kd, nr, co, iv, ni, ka, kb, kc, st, un, ac⟩ := x
      dsimp only at q0 q1 q2 q3 q4 q5 q6 q7 q8 q9 q10 M1
      have hnums : (⟨kd, nr, co, iv, ni, ka, kb, kc, st, un, ac⟩ : Rec).nums = [kd, nr, co, iv, ni, ka, kb, kc, st, un, ac] := rfl
      rw [hnums] at HAp
      have hx11 : [kd, nr, co, iv, ni, ka, kb, kc, st, un, ac].length = 11 := rfl
      generalize [kd, nr, co, iv, ni, ka, kb, kc, st, un, ac] = xs at *
      unfold epo epoA at M1
      have hgl : g < wr.heap.size := cell_lt q0
      obtain ⟨gx, hgx⟩ : ∃ gx, wr.heap.size = gx := ⟨_, rfl⟩
      obtain ⟨w1, hw1⟩ : ∃ w1, wr.alloc (.cells #[.int .i64 kd, .int .i64 nr, .int .i64 co, .int .i64 iv, .int .i64 ni, .int .i64 ka, .int .i64 kb, .int .i64 kc, .int .i64 st, .int .i64 un, .int .i64 ac] 112) = w1 := ⟨_, rfl⟩
      have hup1 : Up wr w1 := by rw [← hw1]; exact (Up.refl wr).alloc _
      have HB : Hid (MsgS o gx i ad cp #[.int .i64 kd, .int .i64 nr, .int .i64 co, .int .i64 iv, .int .i64 ni, .int .i64 ka, .int .i64 kb, .int .i64 kc, .int .i64 st, .int .i64 un, .int .i64 ac] w w1) := hid ⟨HL.out.up hup1, by rw [← hw1]; exact Blk.new hgx rfl, HU.out.trans hup1⟩
      have HQ := hid (HQ.out.up hup1)
      have HLs := hid (HLs.out.up hup1)
      have HW1 := hid hw1
      have HGx := hid hgx
      clear hup1 hw1 hgx
      go_wp2_with fail
      try rw [HGx.out]
      rw [HW1.out]
      clear HW1 HGx q0 q1 q2 q3 q4 q5 q6 q7 q8 q9 q10 hgl HU HL
      refine region_E (MsgS o gx i ad cp #[.int .i64 kd, .int .i64 nr, .int .i64 co, .int .i64 iv, .int .i64 ni, .int .i64 ka, .int .i64 kb, .int .i64 kc, .int .i64 st, .int .i64 un, .int .i64 ac] w) 7 (by kernel_rfl) (HB.out.up (Up.refl _).drew) fun hS => ?_
      have hQ0 := HQ.out.up (Up.refl w1).drew
      have hL0 := HLs.out.up (Up.refl w1).drew
      generalize w1.drew = u0 at *
      refine anyE_take (i := 0) (v := ?_) 16 rfl rfl (by kernel_rfl) (by kernel_rfl) (by decide) (fun _ _ _ h => h) (by kernel_rfl) (by kernel_rfl) (.inl ⟨by rfl, fun u hu => ?_⟩) hS ?_
      rotate_left
      · (go_simp; first | done | with_reducible rfl)
      try simp only [Act.put, List.setIfInBounds_toArray, List.set_cons_zero, List.set_cons_succ]
      refine anyE_take (i := 1) (v := ?_) 17 rfl rfl (by kernel_rfl) (by kernel_rfl) (by decide) (fun _ _ _ h => h) (by kernel_rfl) (by kernel_rfl) (.inl ⟨by rfl, fun u hu => ?_⟩) hS ?_
      rotate_left
      · (obtain ⟨u1, u2, u3⟩ := hu; have p3 := u1.val (i := 3) rfl; have t0 := u2.val (i := 0) rfl; have t1 := u2.val (i := 1) rfl; have t2 := u2.val (i := 2) rfl; have t3 := u2.val (i := 3) rfl; have t4 := u2.val (i := 4) rfl; have t5 := u2.val (i := 5) rfl; have t6 := u2.val (i := 6) rfl; have t7 := u2.val (i := 7) rfl; have t8 := u2.val (i := 8) rfl; have t9 := u2.val (i := 9) rfl; have t10 := u2.val (i := 10) rfl; go_simp; first | done | with_reducible rfl)
      try simp only [Act.put, List.setIfInBounds_toArray, List.set_cons_zero, List.set_cons_succ]
      refine anyE_take (i := 2) (v := ?_) 18 rfl rfl (by kernel_rfl) (by kernel_rfl) (by decide) (fun _ _ _ h => h) (by kernel_rfl) (by kernel_rfl) (.inl ⟨by rfl, fun u hu => ?_⟩) hS ?_
      rotate_left
      · (obtain ⟨u1, u2, u3⟩ := hu; have p3 := u1.val (i := 3) rfl; have t0 := u2.val (i := 0) rfl; have t1 := u2.val (i := 1) rfl; have t2 := u2.val (i := 2) rfl; have t3 := u2.val (i := 3) rfl; have t4 := u2.val (i := 4) rfl; have t5 := u2.val (i := 5) rfl; have t6 := u2.val (i := 6) rfl; have t7 := u2.val (i := 7) rfl; have t8 := u2.val (i := 8) rfl; have t9 := u2.val (i := 9) rfl; have t10 := u2.val (i := 10) rfl; go_simp; first | done | with_reducible rfl)
      try simp only [Act.put, List.setIfInBounds_toArray, List.set_cons_zero, List.set_cons_succ]
      refine anyE_oneG (i := 3) rfl (by kernel_rfl) (by rfl) (fun K hK => ?_)
      go_simp
      refine (M1.out u0).mono ?_
      rintro e u1 ⟨l1, rfl, ⟨base1, hq1, hb1⟩, hup⟩
      try dsimp only
      have hS1 := MsgS.up hS hup
      have hQ1 := hQ0.up hup
      have hL1 := hL0.up hup
      have hnew := fun b n c hv => newer (b := b) (n := n) (c := c) hQ0 hq1 hb1 hv
      have hI1 := OwnQ.ints hq1
      have hC1 := ownQ_cap hq1
      rw [List.length_map, hx11] at hC1
      refine hK.out _ _ (.inr hS1) ?_
      clear hK hS hup hQ0 hL0
      try simp only [Act.put, List.setIfInBounds_toArray, List.set_cons_zero, List.set_cons_succ]
      refine anyE_oneG (i := 4) rfl (by kernel_rfl) (by rfl) (fun K hK => ?_)
      obtain ⟨la, lc, hle⟩ := hq1.shape
      rw [List.length_map, hx11] at hle
      subst hle
      go_simp
      have hup2 := (Up.refl u1).alloc (.cells #[.int .i64 3, .int .i64 0, nilS, .slice la 11 lc] 142)
      have hS2 := MsgS.up hS1 hup2
      refine hK.out _ _ (.inr hS2) ?_
      clear hK
      try simp only [Act.put, List.setIfInBounds_toArray, List.set_cons_zero, List.set_cons_succ]
      have hQ2 := hQ1.up hup2
      have hL2 := hL1.up hup2
      have hI2 := hI1.up hup2
      have hs2 : u1.heap.size ≤ (u1.alloc (.cells #[.int .i64 3, .int .i64 0, nilS, .slice la 11 lc] 142)).heap.size := hup2.size
      have hBu : B ≤ (u1.alloc (.cells #[.int .i64 3, .int .i64 0, nilS, .slice la 11 lc] 142)).heap.size := by have := hS1.1.lt; omega
      refine anyE_oneG (i := 5) rfl (by kernel_rfl) (by rfl) (fun K hK => ?_)
      refine op_appQ infoItm rfl Tryz.underlying140 (by omega) _ _ rfl B rfl hQ2 u1.heap.size 1 (news := [⟨3, 0, nilS, .slice la 11 lc⟩]) rfl (fun j hj => by (obtain rfl : j = 0 := (by simp at hj; omega)); exact itm_new rfl) (fun j hj => by (obtain rfl : j = 0 := (by simp at hj; omega)); exact ⟨rfl, rfl⟩) (by have := HLn.out; simp only [List.length_singleton]; omega) hBu ?_
      intro v5 w5 hO5 hg5
      have hB5 := hQ2.below hg5 hBu
      have hS5 : MsgS o gx i ad cp #[.int .i64 kd, .int .i64 nr, .int .i64 co, .int .i64 iv, .int .i64 ni, .int .i64 ka, .int .i64 kb, .int .i64 kc, .int .i64 st, .int .i64 un, .int .i64 ac] w w5 := ⟨hS2.1.below hB5 (by omega), hS2.2.1.grown hg5 (ownQ_apart hQ2 hS2.2.1 (by decide)), up_below hS2.2.2 hB5 (by omega)⟩
      have hL5 := hL2.grown hQ2 hg5
      have hI5 := hI2.grown hg5 (fun _ b n c hv => hnew b n c hv)
      have hA5 := HAp.out w5 _ _ hL5 hI5 hC1
      obtain ⟨a5, c5, rfl⟩ := hO5.shape
      rw [List.length_append, HLn.out, List.length_singleton] at hO5 ⊢
      change K (Act.put _ (some 21) _) _
      refine hK.out _ _ (.inr hS5) ?_
      clear hK
      try simp only [Act.put, List.setIfInBounds_toArray, List.set_cons_zero, List.set_cons_succ]
      refine anyE_take (i := 6) (v := ?_) 22 rfl rfl (by kernel_rfl) (by kernel_rfl) (by decide) (fun _ _ _ h => h) (by kernel_rfl) (by kernel_rfl) (.inl ⟨by rfl, fun u hu => ?_⟩) hS5 ?_
      rotate_left
      · (go_simp; first | done | with_reducible rfl)
      try simp only [Act.put, List.setIfInBounds_toArray, List.set_cons_zero, List.set_cons_succ]
      have k3 := hS5.1.val (i := 3) rfl
      have y3 := hS5.1.thawed 3
      refine anyE_oneG (i := 7) rfl (by kernel_rfl) (by rfl) (fun K hK => ?_)
      go_simp
      refine hK.out _ _ (.inl rfl) (anyE_done (by kernel_rfl) ?_ _)
      clear hK
      have HL6 : Hid (Blk (w5.setCell ⟨o, 3, none⟩ (.slice a5 (i + 1) c5)) o 142 #[.int .i64 3, .int .i64 0, nilS, .slice a5 (i + 1) c5]) := hid (hS5.1.wrote 3 _)
      have HQ6 := hid (hO5.set (a := ⟨o, 3, none⟩) (show o < B by omega) (.slice a5 (i + 1) c5))
      have HLs6 := hid (LstAt.set hA5 hS5.1 rfl (.slice a5 (i + 1) c5))
      have HU6 := hid (hS5.2.2.setCell (a := ⟨o, 3, none⟩) (show w.heap.size ≤ o by omega) (.slice a5 (i + 1) c5))
      have HLn6 : Hid ((qs ++ [(⟨3, 0, nilS, .slice la 11 lc⟩ : Quad)]).length = i + 1) := hid (by rw [List.length_append, HLn.out]; rfl)
      clear hS1 hS2 hS5 k3 y3 hQ1 hQ2 hL1 hL2 hL5 hI1 hI2 hI5 hA5 hO5 hg5 hB5 hnew hC1 hq1 hs2 hBu HB HQ HLs M1 HAp
      generalize w5.setCell ⟨o, 3, none⟩ (.slice a5 (i + 1) c5) = w6 at *
      go_wp2_with fail
      go_roundw
      case rel => exact ⟨i + 1, a5, c5, _, by omega, by go_num, HL6, HLn6, HQ6, HLs6, HU6⟩
      case measure => simp [intOf]; omega
    · obtain rfl : i = m := by omega
      have HE := hid (fun (w' : World) (hU : Up wr w') => Encode_ok (d := 2) (lst_itm (HQ.out.up hU) (by have := HLs.out.up hU; rw [List.take_of_length_le (by rw [HM.out]; omega)] at this; exact this) (by rw [HM.out]; exact hl)) (by omega))
      have k0 := HL.out.val (i := 0) rfl
      have k1 := HL.out.val (i := 1) rfl
      have k2 := HL.out.val (i := 2) rfl
      have k3 := HL.out.val (i := 3) rfl
      clear HQ HLs HLn N1
      go_wp2_with fail
      refine (HE.out _ (Up.refl _)).mono ?_
      rintro e w2 ⟨v2, rfl, hO2, hU2⟩
      have HU2 := hid (HU.out.trans hU2)
      have HO2 := hid hO2
      clear hU2 k0 k1 k2 k3 HE HL HU
      by_cases hm : (msgR l).length ≤ 16384
      · rw [if_pos hm] at HO2 ⊢
        have hd : decide ((msgR l).length ≤ 16384) = true := by simpa using hm
        have HM5 := hid hm
        have HD5 := hid hd
        clear hm hd hO2
        go_wp2
        go_ret2
        exact ⟨v2, by rw [HD5.out]; rfl, by rw [if_pos HM5.out]; exact HO2.out.seq, HU2.out⟩
      · rw [if_neg hm] at HO2 ⊢
        have hd : decide ((msgR l).length ≤ 16384) = false := by simpa using hm
        have HM5 := hid hm
        have HD5 := hid hd
        clear hm hd hO2
        go_wp2
        go_ret2
        exact ⟨v2, by rw [HD5.out]; rfl, by rw [if_neg HM5.out]; exact HO2.out.seq, HU2.out⟩
end Go.Proofs.YtoaomjdpiealfaaGreatDoor
namespace Go.Proofs.YtoaomjdpiealfaaGreatDoor
open Go.RowKit Go.Sp
set_option maxHeartbeats 4000000
set_option maxRecDepth 20000

/-- Is a list signed by a key? -/
def vfyB (P Q G A B C y : Int) (l : List Rec) (c s : Int) : Bool := bvB P Q G A B C && (allR P Q G A B C l && (!twB l && verS P Q G y (msgR l) c s))
theorem verS_long {P Q G y c s : Int} {m : List Int} (h : ¬ m.length ≤ 16384) : verS P Q G y m c s = false := by
  unfold verS
  rw [show decide (m.length ≤ 16384) = false by simpa using h]
  simp
theorem eVerify_any (P Q G A B C y c s : Int) (v : Value) (l : List Rec) (w : World) (hP : -9223372036854775808 ≤ P) (hQ : Q ≤ 9223372036854775807) (hT : Tab w) (hS : TabS w) (hv : RecsAt w v l) (hl : l.length ≤ 1000) (hI : ∀ r ∈ l, I64 r.kd ∧ I64 r.nr ∧ I64 r.co) :
    Calls Tryz.prog 23 #[bas P Q G A B C, .int .i64 y, .agg #[v, .int .i64 c, .int .i64 s]] w fun e w' => e = .returned (.bool (vfyB P Q G A B C y l c s)) ∧ Up w w' := by
  have M1 := hid (fun w' (hU : Up w w') => bValid_any P Q G A B C w' hP hQ (hT.up hU))
  have M2 := hid (fun w' (hU : Up w w') => evalid_any P Q G A B C v l w' hP hQ (hT.up hU) (hv.up hU))
  have M3 := hid (fun w' (hU : Up w w') => twice_any v l w' (hv.up hU) hl hI)
  have M4 := hid (fun w' (hU : Up w w') => message_any v l w' (hv.up hU) hl)
  have M5 := hid (fun u w' (hU : Up w w') (hu : SeqAt .u8 w' u (msgR l)) => sigVerify_any P Q G y c s u (msgR l) w' hP hQ (hT.up hU) (hS.up hU) hu (msgR_byt l))
  have HL := hid (fun h => verS_long (P := P) (Q := Q) (G := G) (y := y) (c := c) (s := s) (m := msgR l) h)
  obtain ⟨T, hT0⟩ : ∃ T, vfyB P Q G A B C y l c s = T := ⟨_, rfl⟩
  have HB0 := hid hT0.symm
  rw [hT0]
  unfold vfyB at HB0
  generalize bvB P Q G A B C = b1 at *
  generalize allR P Q G A B C l = b2 at *
  generalize twB l = b3 at *
  generalize verS P Q G y (msgR l) c s = b4 at *
  generalize msgR l = ms at *
  obtain ⟨_, a, cp, rfl, _⟩ := hv
  obtain ⟨m, hm⟩ : ∃ m, l.length = m := ⟨_, rfl⟩
  rw [hm] at M2 M3 M4 ⊢
  obtain ⟨o, ho⟩ : ∃ o, w.heap.size = o := ⟨_, rfl⟩
  have HO := hid ho
  obtain ⟨o1, ho1⟩ : ∃ o1, o + 1 = o1 := ⟨_, rfl⟩
  have HO1 := hid ho1
  clear hT hS hI hm ho ho1 hT0
  go_enter Tryz.func23, Tryz.ntmps23
  go_wp2_with fail
  refine (M1.out _ (((Up.refl w).alloc _).alloc _)).mono ?_
  rintro e w1 ⟨rfl, hU1⟩
  have HA1 := hid (((nums_six (w := w) (t := 49) HO.out).up ((Up.refl _).alloc _)).up hU1)
  have HK1 := hid (((Blk.new (g := o1) (t := 71) (cs := #[.slice a m cp, .int .i64 c, .int .i64 s]) (by have := HO.out; have := HO1.out; simp; omega) rfl)).up hU1)
  have HU1 := hid ((((Up.refl w).alloc _).alloc _).trans hU1)
  clear hU1
  rw [HO.out, HO1.out]
  obtain ⟨⟨c0, c1, c2⟩, c3, c4, c5⟩ := HA1.out
  have k0 := HK1.out.val (i := 0) rfl
  have k1 := HK1.out.val (i := 1) rfl
  have k2 := HK1.out.val (i := 2) rfl
  by_cases h : b1 = true
  case neg =>
    have h' : b1 = false := by simpa using h
    have hX : T = false := by rw [HB0.out, h']; rfl
    subst hX
    rw [h']
    clear h h'
    go_wp2
    go_ret
    exact ⟨rfl, HU1.out⟩
  have HB1 : Hid (T = (b2 && (!b3 && b4))) := hid (by rw [HB0.out, h]; rfl)
  have C1 := hid h
  rw [h]
  clear h HB0
  go_wp2_with fail
  refine (M2.out _ (HU1.out)).mono ?_
  rintro e w2 ⟨rfl, hU2⟩
  have HA2 := hid (HA1.out.up hU2)
  have HK2 := hid (HK1.out.up hU2)
  have HU2 := hid (HU1.out.trans hU2)
  clear hU2 HA1 HK1 HU1 c0 c1 c2 c3 c4 c5 k0 k1 k2
  obtain ⟨⟨c0, c1, c2⟩, c3, c4, c5⟩ := HA2.out
  have k0 := HK2.out.val (i := 0) rfl
  have k1 := HK2.out.val (i := 1) rfl
  have k2 := HK2.out.val (i := 2) rfl
  by_cases h : b2 = true
  case neg =>
    have h' : b2 = false := by simpa using h
    have hX : T = false := by rw [HB1.out, h']; rfl
    subst hX
    rw [h']
    clear h h'
    go_wp2
    go_ret
    exact ⟨rfl, HU2.out⟩
  have HB2 : Hid (T = (!b3 && b4)) := hid (by rw [HB1.out, h]; rfl)
  have C2 := hid h
  rw [h]
  clear h HB1
  go_wp2_with fail
  refine (M3.out _ (HU2.out)).mono ?_
  rintro e w3 ⟨rfl, hU3⟩
  have HA3 := hid (HA2.out.up hU3)
  have HK3 := hid (HK2.out.up hU3)
  have HU3 := hid (HU2.out.trans hU3)
  clear hU3 HA2 HK2 HU2 c0 c1 c2 c3 c4 c5 k0 k1 k2
  obtain ⟨⟨c0, c1, c2⟩, c3, c4, c5⟩ := HA3.out
  have k0 := HK3.out.val (i := 0) rfl
  have k1 := HK3.out.val (i := 1) rfl
  have k2 := HK3.out.val (i := 2) rfl
  cases b3
  case true =>
    obtain rfl : T = false := HB2.out
    go_wp2
    go_ret
    exact ⟨rfl, HU3.out⟩
  have HB3 : Hid (T = b4) := hid (by rw [HB2.out]; rfl)
  clear HB2
  go_wp2_with fail
  refine (M4.out _ HU3.out).mono ?_
  rintro e w4 ⟨u, rfl, hu, hU4⟩
  have HA4 := hid (HA3.out.up hU4)
  have HK4 := hid (HK3.out.up hU4)
  have HU4 := hid (HU3.out.trans hU4)
  obtain ⟨ua, uc, rfl, _, _⟩ := hu.shape
  have HUq := hid hu
  clear hU4 hu HA3 HK3 HU3 c0 c1 c2 c3 c4 c5 k0 k1 k2
  by_cases hm : ms.length ≤ 16384
  case neg =>
    have hd : decide (ms.length ≤ 16384) = false := by simpa using hm
    obtain rfl : T = false := by rw [HB3.out]; exact HL.out hm
    rw [hd, if_neg hm]
    clear hd hm
    go_wp2
    go_ret
    exact ⟨rfl, HU4.out⟩
  have hd : decide (ms.length ≤ 16384) = true := by simpa using hm
  rw [if_pos hm] at HUq ⊢
  rw [hd]
  clear hd hm
  obtain ⟨⟨c0, c1, c2⟩, c3, c4, c5⟩ := HA4.out
  have k0 := HK4.out.val (i := 0) rfl
  have k1 := HK4.out.val (i := 1) rfl
  have k2 := HK4.out.val (i := 2) rfl
  go_wp2_with fail
  refine (M5.out _ _ HU4.out HUq.out).mono ?_
  rintro e w5 ⟨rfl, hU5⟩
  have HU5 := hid (HU4.out.trans hU5)
  clear hU5
  obtain rfl : T = b4 := HB3.out
  go_wp2
  go_ret
  exact ⟨rfl, HU5.out⟩
end Go.Proofs.YtoaomjdpiealfaaGreatDoor
namespace Go.Proofs.YtoaomjdpiealfaaGreatDoor
open Go.RowKit Go.Sp
set_option maxHeartbeats 4000000
set_option maxRecDepth 20000

theorem trB_tri (b n d : Int) (r : Rec) : trB b n d r = (tri r == (b, n, d)) := by
  unfold trB tri
  rfl
theorem idxK_first {p : Rec → Bool} : ∀ (l : List Rec) (i k : Nat), i < l.length → (∀ j, j < i → p (l.getD j rec0) = false) → p (l.getD i rec0) = true → idxK p l k = ((k + i : Nat) : Int)
  | [], i, _, h, _, _ => by simp at h
  | x :: l, 0, k, _, _, hp => by
    have : p x = true := by simpa using hp
    rw [idxK, if_pos this]; simp
  | x :: l, i + 1, k, h, hn, hp => by
    have h0 : p x = false := by simpa using hn 0 (by omega)
    rw [idxK, if_neg (by simp [h0]), idxK_first l i (k + 1) (by simpa using h) (fun j hj => by simpa using hn (j + 1) (by omega)) (by simpa using hp)]
    omega
theorem idxK_early {p : Rec → Bool} : ∀ (l : List Rec) (i j k : Nat), i < l.length → j < i → p (l.getD j rec0) = true → idxK p l k ≠ ((k + i : Nat) : Int)
  | [], i, _, _, h, _, _ => by simp at h
  | x :: l, 0, j, k, _, hj, _ => by omega
  | x :: l, i + 1, j, k, h, hj, hp => by
    by_cases h0 : p x = true
    · rw [idxK, if_pos h0]; omega
    · rw [idxK, if_neg h0]
      cases j with
      | zero => exact absurd (by simpa using hp) h0
      | succ j =>
        have := idxK_early l i j (k + 1) (by simpa using h) (by omega) (by simpa using hp)
        intro e
        apply this
        rw [e]
        omega
theorem seen_iff {l : List Rec} {i : Nat} (hi : i < l.length) (t : Tri) : (seenL l i).contains t = true ↔ ∃ j, j < i ∧ tri (l.getD j rec0) = t := by
  unfold seenL
  simp only [List.contains_eq_mem, List.mem_reverse, List.mem_map, decide_eq_true_eq]
  constructor
  · rintro ⟨r, hr, rfl⟩
    obtain ⟨j, hj, rfl⟩ := List.getElem_of_mem hr
    have hj2 : j < i := by simp at hj; omega
    refine ⟨j, hj2, ?_⟩
    have : j < l.length := by omega
    simp [this]
  · rintro ⟨j, hj, rfl⟩
    have hjl : j < l.length := by omega
    refine ⟨l.getD j rec0, ?_, rfl⟩
    have : l.getD j rec0 = (l.take i)[j]'(by simp; omega) := by simp [hjl]
    rw [this]
    exact List.getElem_mem _
theorem twice_step {l : List Rec} {i : Nat} (hi : i < l.length) (b n d : Int) (ht : tri (l.getD i rec0) = (b, n, d)) : (idxK (trB b n d) l 0 != (i : Int)) = (seenL l i).contains (b, n, d) := by
  by_cases h : (seenL l i).contains (b, n, d) = true
  · rw [h, bne_iff_ne]
    obtain ⟨j, hj, he⟩ := (seen_iff hi _).1 h
    have := idxK_early l i j 0 hi hj (p := trB b n d) (by rw [trB_tri, he]; simp)
    rwa [Nat.zero_add] at this
  · have h' : (seenL l i).contains (b, n, d) = false := by simpa using h
    rw [h']
    have := idxK_first l i 0 hi (p := trB b n d) (fun j hj => by
      rw [trB_tri]
      have : ¬ tri (l.getD j rec0) = (b, n, d) := fun e => h ((seen_iff hi _).2 ⟨j, hj, e⟩)
      simpa using this) (by rw [trB_tri, ht]; simp)
    rw [Nat.zero_add] at this
    rw [this]
    simp

theorem allR_true {P Q G A B C : Int} {l : List Rec} (h : ∀ j, j < l.length → recR P Q G A B C (l.getD j rec0) = true) : allR P Q G A B C l = true := by
  unfold allR
  rw [Bool.not_eq_true', List.any_eq_false]
  intro r hr
  obtain ⟨j, hj, rfl⟩ := List.getElem_of_mem hr
  have := h j hj
  rw [show l.getD j rec0 = l[j] by simp [hj]] at this
  simp [this]
theorem allR_false {P Q G A B C : Int} {l : List Rec} {j : Nat} (hj : j < l.length) (h : recR P Q G A B C (l.getD j rec0) = false) : allR P Q G A B C l = false := by
  unfold allR
  rw [Bool.not_eq_false', List.any_eq_true]
  exact ⟨_, recs_mem hj, by rw [h]; rfl⟩

theorem rAll_any (P Q G A B C : Int) (v : Value) (l : List Rec) (w : World) (hP : -9223372036854775808 ≤ P) (hQ : Q ≤ 9223372036854775807) (hv : RecsAt w v l) :
    Calls Tryz.prog 70 #[bas P Q G A B C, v] w fun e w' => e = .returned (.bool (allR P Q G A B C l)) ∧ Up w w' := by
  have HV := hid hv
  have N1 := hid (fun (x : Rec) w' => rRecValid_any P Q G A B C x.kd x.nr x.co x.iv x.ni x.ka x.kb x.kc x.st x.un x.ac w' hP hQ)
  have HF := hid (fun (j : Nat) (hj : j < l.length) => (allR_false hj : recR P Q G A B C (l.getD j rec0) = false → allR P Q G A B C l = false))
  have HTr := hid (allR_true (P := P) (Q := Q) (G := G) (A := A) (B := B) (C := C) (l := l))
  obtain ⟨T, hT⟩ : ∃ T, allR P Q G A B C l = T := ⟨_, rfl⟩
  rw [hT] at HF HTr ⊢
  obtain ⟨_, a, cp, rfl, _⟩ := hv
  obtain ⟨m, hm⟩ : ∃ m, l.length = m := ⟨_, rfl⟩
  have HM := hid hm
  rw [hm] at HV HF HTr ⊢
  obtain ⟨o, ho⟩ : ∃ o, w.heap.size = o := ⟨_, rfl⟩
  have HO := hid ho
  have hmb : (m : Int) ≤ 9223372036854775807 := by rw [← hm]; omega
  clear hT hm ho
  go_enter Tryz.func70, Tryz.ntmps70
  go_wp2_with fail
  have HA0 := hid (nums_six (w := w) (t := 49) (x := P) (y := Q) (z := G) (a := A) (b := B) (c := C) HO.out)
  have HU0 := hid ((Up.refl w).alloc (.cells #[.int .i64 P, .int .i64 Q, .int .i64 G, .int .i64 A, .int .i64 B, .int .i64 C] 49))
  rw [HO.out]
  go_loopw [5] (fun vi wr => ∃ i : Nat, i ≤ m ∧ vi = .int .i64 i ∧ Hid (∀ j, j < i → recR P Q G A B C (l.getD j rec0) = true) ∧ Hid (BasAt wr o P Q G A B C) ∧ Hid (Up w wr)) (fun vi _ => m - (intOf vi).toNat)
  case atStart => exact ⟨0, by omega, rfl, hid (fun j hj => by omega), HA0, HU0⟩
  case round =>
    clear HA0 HU0
    obtain ⟨i, hi, rfl, HI, HA, HU⟩ := hrel
    by_cases hlt : i < m
    · have hlx : i < l.length := by rw [HM.out]; exact hlt
      obtain ⟨g, off, rfl, hx⟩ := recs_cell HV.out HU.out hlx
      have V1 := hid (fun w' => N1.out (l.getD i rec0) w')
      have HFi := hid (HF.out i hlt)
      have HIx := hid (fun (h : recR P Q G A B C (l.getD i rec0) = true) => (fun j (hj : j < i + 1) => by
        by_cases he : j < i
        · exact HI.out j he
        · obtain rfl : j = i := by omega
          exact h : ∀ j, j < i + 1 → recR P Q G A B C (l.getD j rec0) = true))
      unfold recR at HFi HIx
      clear hlx
      generalize l.getD i rec0 = x at V1 HFi HIx hx
      obtain ⟨kd, nr, co, iv, ni, ka, kb, kc, st, un, ac⟩ := x
      obtain ⟨p0, p1, p2, p3, p4, p5, p6, p7, p8, p9, p10⟩ := hx
      dsimp only at p0 p1 p2 p3 p4 p5 p6 p7 p8 p9 p10 V1 HFi HIx
      unfold epo epoA at V1
      generalize recB P Q G A B C kd nr co iv ni ka kb kc st un ac = t1 at *
      obtain ⟨⟨c0, c1, c2⟩, c3, c4, c5⟩ := HA.out
      have f0 := cellF p0
      have f1 := cellF p1
      have f2 := cellF p2
      have f3 := cellF p3
      have f4 := cellF p4
      have f5 := cellF p5
      have f6 := cellF p6
      have f7 := cellF p7
      have f8 := cellF p8
      have f9 := cellF p9
      have f10 := cellF p10
      have g0 := cellF c0
      have g1 := cellF c1
      have g2 := cellF c2
      have g3 := cellF c3
      have g4 := cellF c4
      have g5 := cellF c5
      clear p0 p1 p2 p3 p4 p5 p6 p7 p8 p9 p10 c0 c1 c2 c3 c4 c5
      go_wp2_with fail
      refine wp_region_up (by kernel_rfl) (by kernel_rfl) ?_
      repeat (go_big_quiet_step ((first
        | (go_at_call 129; exact Calls.up_of (V1.out _)))))
      refine wpQuiet_nil ?_
      rintro w1 ⟨⟨_, hU1⟩, rfl⟩
      try dsimp only
      have HU1 := hid (HU.out.trans hU1)
      have HA1 := hid (HA.out.up hU1)
      clear hU1 f0 f1 f2 f3 f4 f5 f6 f7 f8 f9 f10 g0 g1 g2 g3 g4 g5
      cases t1
      · obtain rfl : T = false := HFi.out (by trivial)
        go_wp2
        go_ret
        exact ⟨rfl, HU1.out⟩
      · have HI2 := hid (HIx.out (by trivial))
        go_wp2_with fail
        go_roundw
        case rel => exact ⟨i + 1, by omega, by go_num, HI2, HA1, HU1⟩
        case measure => simp [intOf]; omega
    · obtain rfl : i = m := by omega
      obtain rfl : T = true := HTr.out (fun j hj => HI.out j hj)
      go_wp2
      go_ret
      exact ⟨rfl, HU.out⟩

theorem rTwice_any (v : Value) (l : List Rec) (w : World) (hv : RecsAt w v l) :
    Calls Tryz.prog 71 #[v] w fun e w' => e = .returned (.bool (twB l)) ∧ Up w w' := by
  have HV := hid hv
  have F1 := hid (fun b n d w' (hU : Up w w') => rFind_any v l b n d w' (hv.up hU))
  have HT := hid (fun (i : Nat) (hi : i < l.length) => (twB_true hi : (seenL l i).contains (tri (l.getD i rec0)) = true → twB l = true))
  have HF := hid (twB_false (l := l))
  have HS := hid (fun (i : Nat) (hi : i < l.length) b n d ht => twice_step hi b n d ht)
  obtain ⟨T, hT⟩ : ∃ T, twB l = T := ⟨_, rfl⟩
  rw [hT] at HT HF ⊢
  obtain ⟨_, a, cp, rfl, _⟩ := hv
  obtain ⟨m, hm⟩ : ∃ m, l.length = m := ⟨_, rfl⟩
  have HM := hid hm
  rw [hm] at HV HT HF HS F1 ⊢
  have hmb : (m : Int) ≤ 9223372036854775807 := by rw [← hm]; omega
  clear hT hm
  go_enter Tryz.func71, Tryz.ntmps71
  go_wp2_with fail
  go_loopw [3] (fun vi wr => ∃ i : Nat, i ≤ m ∧ vi = .int .i64 i ∧ Hid (∀ j, j < i → (seenL l j).contains (tri (l.getD j rec0)) = false) ∧ Hid (Up w wr)) (fun vi _ => m - (intOf vi).toNat)
  case atStart => exact ⟨0, by omega, rfl, hid (fun j hj => by omega), hid (Up.refl _)⟩
  case round =>
    obtain ⟨i, hi, rfl, HA, HU⟩ := hrel
    by_cases hlt : i < m
    · have hlx : i < l.length := by rw [HM.out]; exact hlt
      obtain ⟨g, off, rfl, hx⟩ := recs_cell HV.out HU.out hlx
      have HTx := hid (HT.out i hlt)
      have HSx := hid (HS.out i hlt)
      have HAx := hid (fun (h : (seenL l i).contains (tri (l.getD i rec0)) = false) => (fun j (hj : j < i + 1) => by
        by_cases he : j < i
        · exact HA.out j he
        · obtain rfl : j = i := by omega
          exact h : ∀ j, j < i + 1 → (seenL l j).contains (tri (l.getD j rec0)) = false))
      clear hlx
      generalize l.getD i rec0 = x at HTx HSx HAx hx
      obtain ⟨kd, nr, co, iv, ni, ka, kb, kc, st, un, ac⟩ := x
      obtain ⟨p0, p1, p2, p3, p4, p5, p6, p7, p8, p9, p10⟩ := hx
      dsimp only at p0 p1 p2
      have hs := HSx.out kd nr co rfl
      have ht3 : tri ⟨kd, nr, co, iv, ni, ka, kb, kc, st, un, ac⟩ = (kd, nr, co) := rfl
      rw [ht3] at HTx HAx
      have V1 := hid (fun w' (hU : Up w w') => F1.out kd nr co w' hU)
      generalize idxK (trB kd nr co) l 0 = z at *
      generalize (seenL l i).contains (kd, nr, co) = cc at *
      have f0 := cellF p0
      have f1 := cellF p1
      have f2 := cellF p2
      clear p0 p1 p2 p3 p4 p5 p6 p7 p8 p9 p10 HSx ht3
      go_wp2_with fail
      refine wp_region_up (by kernel_rfl) (by kernel_rfl) ?_
      repeat (go_big_quiet_step ((first
        | (go_at_call 130; exact Calls.up_of (V1.out _ (HU.out.trans (UpFrom.up _)))))))
      refine wpQuiet_nil ?_
      rintro w1 ⟨⟨_, hU1⟩, rfl⟩
      try dsimp only
      have HU1 := hid (HU.out.trans hU1)
      clear hU1 f0 f1 f2
      try rw [hs]
      clear hs
      cases cc
      · have HA2 := hid (HAx.out (by trivial))
        go_wp2_with fail
        go_roundw
        case rel => exact ⟨i + 1, by omega, by go_num, HA2, HU1⟩
        case measure => simp [intOf]; omega
      · obtain rfl : T = true := HTx.out (by trivial)
        go_wp2
        go_ret
        exact ⟨rfl, HU1.out⟩
    · obtain rfl : i = m := by omega
      obtain rfl : T = false := HF.out (fun j hj => HA.out j hj)
      go_wp2
      go_ret
      exact ⟨rfl, HU.out⟩
end Go.Proofs.YtoaomjdpiealfaaGreatDoor
