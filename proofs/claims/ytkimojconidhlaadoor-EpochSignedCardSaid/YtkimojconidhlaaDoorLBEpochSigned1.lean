/- A signed list is verified, and only as far as its message: specielaw30.EpochSigned returns true. For every input; the tables of packages math/bits, prime and digest as the program's text lays them. EpochSigned: the walk. EpochSigned: what the law's loop keeps, and the plain law. -/
import Derived.Test.YtkimojconidhlaaDoorMB24
import Derived.Test.YtkimojconidhlaaDoorMB25
import Derived.Test.YtkimojconidhlaaDoorMB18
import Derived.Lay
namespace Go.Proofs.YtkimojconidhlaaDoor
open Go.RowKit Go.Sp
set_option maxHeartbeats 1000000

theorem OwnR.set {e : TypeId} {w : World} {base : Nat} {v : Value} {rs : List Rec} (h : OwnR e w base v rs) {a : Addr} (ha : a.block < base) (x : Value) : OwnR e (w.setCell a x) base v rs := by
  refine ⟨h.1, ?_⟩
  rcases h.2 with hn | ⟨g, cap, cur, rfl, hb, hg, rest⟩
  · exact .inl hn
  · exact .inr ⟨g, cap, cur, rfl, hb, by rw [Below.heap_setCell w a x g (by omega)]; exact hg, rest⟩
theorem OwnQ.keptB {e : TypeId} {w w' : World} {base : Nat} {v : Value} {qs : List Quad} {row : Option Nat} (h : OwnQ e w base v qs) (hg : w.grownBy w' row) (hne : ∀ j, v.ownBlock = some j → some j ≠ row) : OwnQ e w' base v qs := by
  refine ⟨h.1, ?_⟩
  rcases h.2 with h2 | ⟨g', cap, cur, rfl, h1, hc, h3⟩
  · exact .inl h2
  · exact .inr ⟨g', cap, cur, rfl, h1, (hg.block g' (Array.getElem?_eq_some_iff.1 hc).1 (hne g' rfl)).trans hc, h3⟩
theorem SetAt.blk {w w' : World} {b n : Nat} {S : List Tri} (h : SetAt w b n S) (he : w'.heap[b]? = w.heap[b]?) : SetAt w' b n S := by
  obtain ⟨D, ⟨es, clock, hb, F, hs, hD⟩, h2⟩ := h
  exact ⟨D, ⟨es, clock, he.trans hb, F, hs, hD⟩, h2⟩
theorem SetAt.setCell {w : World} {b n : Nat} {S : List Tri} (h : SetAt w b n S) {a : Addr} (ha : b ≠ a.block) (x : Value) : SetAt (w.setCell a x) b n S := h.blk (Below.heap_setCell w a x b ha)
theorem SetAt.map {w : World} {b n : Nat} {S : List Tri} (h : SetAt w b n S) : ∃ es c, w.heap[b]? = some (.map es c) := by
  obtain ⟨D, ⟨es, clock, hb, _⟩, _⟩ := h
  exact ⟨_, _, hb⟩
theorem SetAt.apartQ {e : TypeId} {w : World} {base b n : Nat} {v : Value} {qs : List Quad} {S : List Tri} (h : SetAt w b n S) (ho : OwnQ e w base v qs) (j : Nat) (hj : v.ownBlock = some j) : some j ≠ some b := by
  intro he
  injection he with he
  subst he
  obtain ⟨es, c, hb⟩ := h.map
  rcases ho.2 with ⟨rfl, _⟩ | ⟨g', cap, cur, rfl, _, hg, _⟩
  · cases hj
  · simp [Value.ownBlock] at hj
    subst hj
    rw [hb] at hg
    cases hg
theorem LstAt.kept {w w' : World} {qs : List Quad} {l : List Rec} {b n : Nat} {S : List Tri} (h : LstAt w qs l) (hs : SetAt w b n S) (hg : w.grownBy w' (some b)) : LstAt w' qs l := by
  obtain ⟨es, c, hb⟩ := hs.map
  refine ⟨h.1, fun j hj => ?_⟩
  obtain ⟨v, h1, h2, h3⟩ := h.2 j hj
  refine ⟨v, h1, h2.grown hg (fun hx b' n' c' hv => ?_), h3⟩
  intro he
  injection he with he
  subst he
  subst hv
  obtain ⟨a, cap, hv2, h4⟩ := h2
  obtain ⟨b2, ha, hc⟩ := h4 hx
  injection hv2 with e1 e2 e3
  rw [← e1] at ha
  injection ha with ha
  injection ha with ha
  subst ha
  have h0 := (hc 0 (by cases hl : (l.getD j rec0).nums with | nil => exact absurd hl hx | cons x xs => simp)).1
  have h5 := Blk.read (w := w) (g := b') (cs := #[]) (t := 0)
  simp [World.cell?, hb] at h0
theorem grown_setAt {w0 w w' : World} {b : Nat} (hU : Up w0 w) (hb : w0.heap.size ≤ b) (hg : w.grownBy w' (some b)) : Up w0 w' := up_grown hU hg (fun k hk => by injection hk; omega)

theorem allR_yes {P Q G A B C : Int} {l : List Rec} (h : ∀ j, j < l.length → recR P Q G A B C (l.getD j rec0) = true) : allR P Q G A B C l = true := by
  unfold allR
  rw [Bool.not_eq_true', List.any_eq_false]
  intro r hr
  obtain ⟨j, hj, rfl⟩ := List.getElem_of_mem hr
  have := h j hj
  rw [show l.getD j rec0 = l[j] by simp [hj]] at this
  simp [this]
theorem allR_no {P Q G A B C : Int} {l : List Rec} {j : Nat} (hj : j < l.length) (h : recR P Q G A B C (l.getD j rec0) = false) : allR P Q G A B C l = false := by
  unfold allR
  rw [Bool.not_eq_false', List.any_eq_true]
  exact ⟨_, recs_mem hj, by rw [h]; rfl⟩
/-- Are the first i records valid, and their numbers different? -/
def okB (P Q G A B C : Int) (l : List Rec) (i : Nat) : Bool := (List.range i).all fun j => recR P Q G A B C (l.getD j rec0) && !(seenL l j).contains (tri (l.getD j rec0))
theorem okB_zero (P Q G A B C : Int) (l : List Rec) : okB P Q G A B C l 0 = true := rfl
theorem okB_succ (P Q G A B C : Int) (l : List Rec) (i : Nat) : okB P Q G A B C l (i + 1) = (okB P Q G A B C l i && (recR P Q G A B C (l.getD i rec0) && !(seenL l i).contains (tri (l.getD i rec0)))) := by
  unfold okB
  rw [List.range_succ, List.all_append]
  simp
theorem okB_all (P Q G A B C : Int) (l : List Rec) : okB P Q G A B C l l.length = (allR P Q G A B C l && !twB l) := by
  rw [Bool.eq_iff_iff]
  unfold okB
  simp only [List.all_eq_true, List.mem_range, Bool.and_eq_true]
  constructor
  · intro h
    refine ⟨allR_yes fun j hj => (h j hj).1, ?_⟩
    rw [twB_false fun j hj => by have := (h j hj).2; simpa using this]
    rfl
  · rintro ⟨h1, h2⟩ j hj
    constructor
    · cases hr : recR P Q G A B C (l.getD j rec0) with
      | true => rfl
      | false => rw [allR_no hj hr] at h1; cases h1
    · cases hr : (seenL l j).contains (tri (l.getD j rec0)) with
      | false => rfl
      | true => rw [twB_true hj hr] at h2; cases h2
theorem vfy_ok {P Q G A B C y c s : Int} {l : List Rec} (hb : bvB P Q G A B C = true) : vfyB P Q G A B C y l c s = (okB P Q G A B C l l.length && verS P Q G y (msgR l) c s) := by
  unfold vfyB
  rw [hb, okB_all, Bool.true_and, Bool.and_assoc]
/-- The changed list. -/
def chR (l : List Rec) (k q : Nat) (z : Int) : List Rec := l.set k ((l.getD k rec0).put z q)
theorem chR_length (l : List Rec) (k q : Nat) (z : Int) : (chR l k q z).length = l.length := by unfold chR; simp
theorem chR_int {l : List Rec} {k q : Nat} {z : Int} (hI : ∀ r ∈ l, RecI r) (hk : k < l.length) (hz : I64 z) : ∀ r ∈ chR l k q z, RecI r := by
  intro r hr
  unfold chR at hr
  rcases List.mem_or_eq_of_mem_set hr with h | rfl
  · exact hI r h
  · obtain ⟨h1, h2, h3⟩ := hI _ (recs_mem hk)
    unfold RecI
    match q with
    | 0 => exact ⟨hz, h2, h3⟩
    | 1 => exact ⟨h1, hz, h3⟩
    | 2 => exact ⟨h1, h2, hz⟩
    | 3 | 4 | 5 | 6 | 7 | 8 | 9 | 10 => exact ⟨h1, h2, h3⟩
    | _ + 11 => exact ⟨h1, h2, h3⟩
/-- The changed cell. -/
theorem ownR_cell {e : TypeId} {w : World} {base g n cap : Nat} {rs : List Rec} {k q : Nat} (h : OwnR e w base (.slice (some ⟨g, 0, none⟩) n cap) rs) (hk : k < rs.length) (hq : q < 11) :
    base ≤ g ∧ ∃ x cs, Blk w g e cs ∧ cs[k * 11 + q]? = some (.int .i64 x) := by
  have hh := h
  rcases h.2 with ⟨h1, _⟩ | ⟨g', cap', cur, he, hb, hg, hn, hm, hs, ht⟩
  · cases h1
  · injection he with e1 e2 e3
    injection e1 with e1
    injection e1 with e1
    subst e1 e2 e3
    refine ⟨hb, ?_⟩
    have h1 := World.ownsRow.cellAt hh (k * 11 + q) (by omega)
    rw [recCells_at rs k q hk hq, Blk.read hg] at h1
    have h2 : ∃ x, (rs[k].cells)[q]? = some (.int .i64 x) := by
      match q, hq with
      | 0, _ | 1, _ | 2, _ | 3, _ | 4, _ | 5, _ | 6, _ | 7, _ | 8, _ | 9, _ | 10, _ => exact ⟨_, rfl⟩
    obtain ⟨x, hx⟩ := h2
    exact ⟨x, cur, hg, h1.trans hx⟩
theorem ownR_some {e : TypeId} {w : World} {base : Nat} {a : Option Addr} {n cap : Nat} {rs : List Rec} (h : OwnR e w base (.slice a n cap) rs) (hn : 0 < rs.length) : ∃ g, a = some ⟨g, 0, none⟩ := by
  rcases h.2 with ⟨_, h0⟩ | ⟨g, cap', cur, he, _⟩
  · omega
  · injection he with e1 e2 e3
    exact ⟨g, e1⟩
/-- The eleven addresses. -/
def ptrs (g b : Nat) : Array Value := #[.pointer (some ⟨g, b, none⟩), .pointer (some ⟨g, b + 1, none⟩), .pointer (some ⟨g, b + 2, none⟩), .pointer (some ⟨g, b + 3, none⟩), .pointer (some ⟨g, b + 4, none⟩), .pointer (some ⟨g, b + 5, none⟩), .pointer (some ⟨g, b + 6, none⟩), .pointer (some ⟨g, b + 7, none⟩), .pointer (some ⟨g, b + 8, none⟩), .pointer (some ⟨g, b + 9, none⟩), .pointer (some ⟨g, b + 10, none⟩)]
theorem ptrs_at {g b q : Nat} (hq : q < 11) : (ptrs g b)[q]? = some (.pointer (some ⟨g, b + q, none⟩)) := by
  match q, hq with
  | 0, _ | 1, _ | 2, _ | 3, _ | 4, _ | 5, _ | 6, _ | 7, _ | 8, _ | 9, _ | 10, _ => rfl
end Go.Proofs.YtkimojconidhlaaDoor
namespace Go.Proofs.YtkimojconidhlaaDoor
open Go.RowKit Go.Sp
set_option maxHeartbeats 4000000
set_option maxRecDepth 20000

theorem EpochSigned_walk (P Q G A B C x : Int) (h : Nat → Int) (ct : Int) (v : Value) (l : List Rec) (at' fd z : Int) (w : World) (hP : -9223372036854775808 ≤ P) (hQ : Q ≤ 9223372036854775807) (hT : Tab w) (hS : TabS w) (hB : Byt h) (hv : RecsAt w v l) (hn : NilOr v) (hI : ∀ r ∈ l, RecI r)
    (ha : 0 ≤ at' ∧ at' ≤ 255) (hf : 0 ≤ fd ∧ fd ≤ 255) (hz : I64 z) :
    Calls Tryd.prog 3 #[bas P Q G A B C, .int .i64 x, v, drw h ct, .int .u8 at', .int .u8 fd, .int .i64 z] w fun e w' => e = .returned (.bool true) ∧ Up w w' := by
  have HT := hid hT
  have HS := hid hS
  have HV := hid hv
  have HI := hid hI
  have HAt := hid ha
  have HFd := hid hf
  have HZz := hid hz
  have HPQ := hid (And.intro hP hQ)
  have M3 := hid (fun w' (hU : Up w w') (hl : l.length ≤ 50) => eSign_any P Q G A B C x h ct v l w' hP hQ (hT.up hU) (hS.up hU) hB (hv.up hU) hn (by omega) hI)
  have M4 := hid (fun w' (hU : Up w w') => sigKey_any P Q G x w' hP hQ (hT.up hU))
  have M5 := hid (fun u (l' : List Rec) y c s w' (hU : Up w w') (hu : RecsAt w' u l') (hl : l'.length ≤ 50) (hI : ∀ r ∈ l', RecI r) => eVerify_any P Q G A B C y c s u l' w' hP hQ (hT.up hU) (hS.up hU) hu (by omega) hI)
  have M7 := hid (fun u (ms : List Int) y c s w' (hU : Up w w') (hu : SeqAt .u8 w' u ms) (hb : ∀ x ∈ ms, 0 ≤ x ∧ x ≤ 255) => sigVerify_any P Q G y c s u ms w' hP hQ (hT.up hU) (hS.up hU) hu hb)
  have M6 := hid (fun u w' (hu : RecsAt w' u l) (hn : NilOr u) (hl : l.length ≤ 50) => cloneR_any u l w' hu hn (by omega))
  have HSz := hid (sizeDrw h ct)
  unfold drw at M3 ⊢
  generalize drwA h ct = D0 at *
  obtain ⟨_, a, cp, rfl, _⟩ := hv
  obtain ⟨m, hm⟩ : ∃ m, l.length = m := ⟨_, rfl⟩
  have HM := hid hm
  rw [hm] at HV M3 M6 ⊢
  obtain ⟨o, ho⟩ : ∃ o, w.heap.size = o := ⟨_, rfl⟩
  have HO := hid ho
  obtain ⟨o1, ho1⟩ : ∃ o1, o + 1 = o1 := ⟨_, rfl⟩
  have HO1 := hid ho1
  clear hT hS hB hn hI hm ho ho1 hP hQ ha hf hz
  go_enter Tryd.func3, Tryd.ntmps3
  go_wp2_with fail
  refine (awake30 _ (HT.out.up (((Up.refl w).alloc _).alloc _)) (HS.out.up (((Up.refl w).alloc _).alloc _))).mono ?_
  rintro e w1 ⟨rfl, hU1⟩
  have HA1 := hid (((nums_six (w := w) (t := 25) HO.out).up ((Up.refl _).alloc _)).up hU1)
  have HD1 := hid (((Blk.new (g := o1) (t := 30) (cs := D0) (by have := HO.out; have := HO1.out; simp; omega) rfl)).up hU1)
  have HU1 := hid ((((Up.refl w).alloc _).alloc _).trans hU1)
  clear hU1
  rw [HO.out, HO1.out]
  obtain ⟨⟨c0, c1, c2⟩, c3, c4, c5⟩ := HA1.out
  by_cases hl : m > 50
  case pos =>
    have d1 : decide ((m : Int) > 50) = true := by simp; omega
    clear hl
    go_wp2
    go_ret
    exact ⟨rfl, HU1.out⟩
  have d1 : decide ((m : Int) > 50) = false := by simp; omega
  have hl5 : m ≤ 50 := by omega
  by_cases hm0 : m = 0
  case pos =>
    subst hm0
    go_wp2
    go_ret
    exact ⟨rfl, HU1.out⟩
  have d2 : ((m : Int) == 0) = false := by simpa using hm0
  go_wp2_with (refine wpList_load_row rfl 30 _ rfl o1 rfl 30 D0 (0, 0) _ HD1.out Tryd.underlying30 rfl HSz.out ?_)
  refine (M3.out _ HU1.out hl5).mono ?_
  rintro e w3 ⟨⟨u, cc, ss, D, E, rfl, hD1, hD2, hE0, hE1⟩, hU3⟩
  have HU3 := hid hU3
  have HE0 := hid hE0
  have HE1 := hid hE1
  have hD3 : (Tryd.prog.info? 30).map (·.size) = some D.size := by rw [hD1]; kernel_rfl
  have HD3 := hid hD3
  have HDa := hid hD1
  have HDb := hid hD2
  clear hE0 hE1 hD1 hD2 hD3 hU3 HD1 c0 c1 c2 c3 c4 c5 M3
  obtain ⟨p, hp⟩ : ∃ p, w3.heap.size = p := ⟨_, rfl⟩
  have hwp : w1.heap.size ≤ p := by rw [← hp]; exact HU3.out.size
  have HPp := hid hp
  clear hp
  by_cases hE : E = 0
  case neg =>
    have dE : (E == 0) = false := by simpa using hE
    obtain ⟨rfl, rfl, rfl⟩ := HE1.out hE
    clear hE HE0 HE1
    obtain ⟨w4, hw4⟩ : ∃ w4, (w3.alloc (.cells #[nilS, .int .i64 0, .int .i64 0] 35)).alloc (.cells D 30) = w4 := ⟨_, rfl⟩
    have HW4 := hid (fun z => show ((w3.alloc (.cells #[nilS, .int .i64 0, .int .i64 0] 35)).alloc (.cells z 30)).setRow (w3.heap.size + 1) D = w4 by rw [show w3.heap.size + 1 = (w3.alloc (.cells #[nilS, .int .i64 0, .int .i64 0] 35)).heap.size by simp, World.setRow_alloc_new]; exact hw4)
    have HU4 := hid (show Up w w4 by rw [← hw4]; exact ((HU1.out.trans HU3.out).alloc _).alloc _)
    have HK4 : Hid (Blk w4 p 35 #[nilS, .int .i64 0, .int .i64 0]) := hid (by rw [← hw4]; exact (Blk.new HPp.out rfl).alloc _)
    have k0 := HK4.out.val (i := 0) rfl
    clear hw4
    go_wp2_with (refine wpList_store_rowTo rfl 30 _ _ rfl rfl (w3.heap.size + 1) D rfl rfl 30 (drwA zeroH 0) (Blk.new (by simp) zero33) HD3.out (by rw [drwA_size, HDa.out]) HDb.out ?_; rw [HW4.out, HPp.out])
    go_ret
    exact ⟨rfl, HU4.out⟩
  subst hE
  obtain ⟨hOR, hb1, hb2, hb3, hb4, hb5⟩ := HE0.out (by trivial)
  obtain ⟨au, cu, rfl⟩ := hOR.shape
  have HR3 := hid hOR.recs
  have HNo : Hid (NilOr (.slice au l.length cu)) := hid (by
    rcases hOR.2 with ⟨h1, _⟩ | ⟨g, cap, cur, h1, _⟩
    · exact .inl h1
    · exact .inr ⟨_, _, _, h1⟩)
  have hk0 : errE (gvB P Q G) (exB Q x) = 0 := by rw [(bv_iff.1 hb1).1, hb4]; rfl
  have hvf : vfyB P Q G A B C (pwi P G x) l cc ss = true := by unfold vfyB; rw [hb1, hb2, hb3, hb5]; rfl
  have M4 := M4.out
  rw [hk0, show orZ 0 (pwi P G x) = pwi P G x from rfl] at M4
  have HBv := hid hb1
  generalize pwi P G x = Y at *
  have HVf := hid hvf
  have M4 := hid M4
  rw [HM.out] at HR3 HNo ⊢
  clear hOR HE0 HE1 hb1 hb2 hb3 hb4 hb5 hk0 hvf
  obtain ⟨w4, hw4⟩ : ∃ w4, (w3.alloc (.cells #[.slice au m cu, .int .i64 cc, .int .i64 ss] 35)).alloc (.cells D 30) = w4 := ⟨_, rfl⟩
  have HW4 := hid (fun z => show ((w3.alloc (.cells #[.slice au m cu, .int .i64 cc, .int .i64 ss] 35)).alloc (.cells z 30)).setRow (w3.heap.size + 1) D = w4 by rw [show w3.heap.size + 1 = (w3.alloc (.cells #[.slice au m cu, .int .i64 cc, .int .i64 ss] 35)).heap.size by simp, World.setRow_alloc_new]; exact hw4)
  have hu34 : Up w3 w4 := by rw [← hw4]; exact ((Up.refl w3).alloc _).alloc _
  have HX4 := hid (HU3.out.trans hu34)
  have HK4 : Hid (Blk w4 p 35 #[.slice au m cu, .int .i64 cc, .int .i64 ss]) := hid (by rw [← hw4]; exact (Blk.new HPp.out rfl).alloc _)
  have HR4 := hid (HR3.out.up hu34)
  obtain ⟨⟨c0, c1, c2⟩, c3, c4, c5⟩ := HA1.out.up HX4.out
  clear hw4 hu34 HR3 HU3
  have k0 := HK4.out.val (i := 0) rfl
  have k1 := HK4.out.val (i := 1) rfl
  have k2 := HK4.out.val (i := 2) rfl
  go_wp2_with (refine wpList_store_rowTo rfl 30 _ _ rfl rfl (w3.heap.size + 1) D rfl rfl 30 (drwA zeroH 0) (Blk.new (by simp) zero33) HD3.out (by rw [drwA_size, HDa.out]) HDb.out ?_; rw [HW4.out, HPp.out])
  clear HW4 HPp HD3 HDa HDb
  refine (M4.out _ (HU1.out.trans HX4.out)).mono ?_
  rintro e w5 ⟨rfl, hU5⟩
  have HX5 := hid (HX4.out.trans hU5)
  have HK5 := hid (HK4.out.up hU5)
  have HR5 := hid (HR4.out.up hU5)
  clear hU5 HX4 HK4 HR4 M4 c0 c1 c2 c3 c4 c5 k0 k1 k2
  obtain ⟨⟨c0, c1, c2⟩, c3, c4, c5⟩ := HA1.out.up HX5.out
  have k0 := HK5.out.val (i := 0) rfl
  have k1 := HK5.out.val (i := 1) rfl
  have k2 := HK5.out.val (i := 2) rfl
  have M5a := M5.out (.slice au m cu) l Y cc ss w5 (HU1.out.trans HX5.out) HR5.out (by rw [HM.out]; omega) HI.out
  rw [HVf.out] at M5a
  have M5a := hid M5a
  have dm : ((m : Int) != (m : Int)) = false := by simp
  go_wp2_with fail
  refine M5a.out.mono ?_
  rintro e w6 ⟨rfl, hU6⟩
  have HX6 := hid (HX5.out.trans hU6)
  have HK6 := hid (HK5.out.up hU6)
  have HR6 := hid (HR5.out.up hU6)
  clear hU6 HX5 HK5 HR5 M5a HVf c0 c1 c2 c3 c4 c5 k0 k1 k2
  have k0 := HK6.out.val (i := 0) rfl
  have hpl : p < w6.heap.size := HK6.out.lt
  have hs6 : w1.heap.size ≤ w6.heap.size := HX6.out.size
  go_wp2_with fail
  refine (M6.out (.slice au m cu) _ HR6.out HNo.out hl5).mono ?_
  rintro e w7 ⟨v7, rfl, hO7, hU7⟩
  have HX7 := hid (HX6.out.trans hU7)
  have HK7 := hid (HK6.out.up hU7)
  obtain ⟨a7, c7, rfl⟩ := hO7.shape
  obtain ⟨g7, rfl⟩ := ownR_some hO7 (by rw [HM.out]; omega)
  rw [HM.out] at hO7 ⊢
  have HO7 := hid hO7
  clear hU7 hO7 HX6 HK6 HR6 HNo M6 k0
  have k0 := HK7.out.val (i := 0) rfl
  have y0 := HK7.out.thawed 0
  have HK8 : Hid (Blk (w7.setCell ⟨p, 0, none⟩ (.slice (some ⟨g7, 0, none⟩) m c7)) p 35 #[.slice (some ⟨g7, 0, none⟩) m c7, .int .i64 cc, .int .i64 ss]) := hid (HK7.out.wrote 0 _)
  have HO8 := hid (HO7.out.set (a := ⟨p, 0, none⟩) hpl (.slice (some ⟨g7, 0, none⟩) m c7))
  have HX8 := hid (HX7.out.setCell (a := ⟨p, 0, none⟩) hwp (.slice (some ⟨g7, 0, none⟩) m c7))
  clear HK7 HO7 HX7
  obtain ⟨W8, hW8⟩ : ∃ W8, w7.setCell ⟨p, 0, none⟩ (.slice (some ⟨g7, 0, none⟩) m c7) = W8 := ⟨_, rfl⟩
  rw [hW8] at HK8 HO8 HX8
  have HW8 := hid hW8
  clear hW8
  go_wp2_with fail
  rw [HW8.out]
  clear HW8 k0 y0
  obtain ⟨k, hk⟩ : ∃ k : Nat, at' % (m : Int) = (k : Int) := ⟨(at' % (m : Int)).toNat, by have := Int.emod_nonneg at' (show (m : Int) ≠ 0 by omega); omega⟩
  have hkm : k < m := by have := Int.emod_lt_of_pos at' (show (0 : Int) < m by omega); omega
  have hkt : at'.tmod (m : Int) = (k : Int) := by rw [Int.tmod_eq_emod_of_nonneg HAt.out.1]; exact hk
  have hkw : IntKind.i64.wrap (k : Int) = (k : Int) := by rw [IntKind.wrap_i64]; omega
  have hki : (k : Int) < m := by omega
  have hwa : IntKind.i64.wrap at' = at' := by rw [IntKind.wrap_i64]; have := HAt.out; omega
  have f0 := cellF (HK8.out.val (i := 0) rfl)
  refine wp_region_up (by kernel_rfl) (by kernel_rfl) ?_
  repeat (go_big_quiet_step (fail))
  refine wpQuiet_nil ?_
  rintro w9 ⟨⟨_, hU9⟩, rfl⟩
  try dsimp only
  have HK9 := hid (HK8.out.up hU9)
  have HO9 := hid (HO8.out.up hU9)
  have HX9 := hid (HX8.out.trans hU9)
  clear hU9 f0 HK8 HO8 HX8 hkt hkw hki hwa hk
  obtain ⟨q, hq⟩ : ∃ q : Nat, fd % 11 = (q : Int) := ⟨(fd % 11).toNat, by omega⟩
  have hq11 : q < 11 := by omega
  have hqi : (q : Int) < 11 := by omega
  have hqt : fd.tmod 11 = (q : Int) := by rw [Int.tmod_eq_emod_of_nonneg HFd.out.1]; exact hq
  have hqw : IntKind.i64.wrap (q : Int) = (q : Int) := by rw [IntKind.wrap_i64]; omega
  have hwf : IntKind.i64.wrap fd = fd := by rw [IntKind.wrap_i64]; have := HFd.out; omega
  clear hq
  go_wp2_with fail
  refine region_E (fun u => Up w9 u) 43 (by kernel_rfl) (Up.refl w9).drew fun hS => ?_
  generalize w9.drew = u0 at *
  refine anyE_takeA (i := 0) (v := ?_) 91 rfl rfl (by kernel_rfl) (by decide) (fun _ _ _ h => h) (by kernel_rfl) (by kernel_rfl) (.inl ⟨by rfl, fun u hu => ?_⟩) hS ?_
  rotate_left
  · (go_simp; first | done | with_reducible rfl)
  try simp only [Act.put, List.setIfInBounds_toArray, List.set_cons_zero, List.set_cons_succ]
  refine anyE_takeA (i := 1) (v := ?_) 92 rfl rfl (by kernel_rfl) (by decide) (fun _ _ _ h => h) (by kernel_rfl) (by kernel_rfl) (.inl ⟨by rfl, fun u hu => ?_⟩) hS ?_
  rotate_left
  · (go_simp; first | done | with_reducible rfl)
  try simp only [Act.put, List.setIfInBounds_toArray, List.set_cons_zero, List.set_cons_succ]
  refine anyE_takeA (i := 2) (v := ?_) 93 rfl rfl (by kernel_rfl) (by decide) (fun _ _ _ h => h) (by kernel_rfl) (by kernel_rfl) (.inl ⟨by rfl, fun u hu => ?_⟩) hS ?_
  rotate_left
  · (go_simp; first | done | with_reducible rfl)
  try simp only [Act.put, List.setIfInBounds_toArray, List.set_cons_zero, List.set_cons_succ]
  refine anyE_takeA (i := 3) (v := ?_) 94 rfl rfl (by kernel_rfl) (by decide) (fun _ _ _ h => h) (by kernel_rfl) (by kernel_rfl) (.inl ⟨by rfl, fun u hu => ?_⟩) hS ?_
  rotate_left
  · (go_simp; first | done | with_reducible rfl)
  try simp only [Act.put, List.setIfInBounds_toArray, List.set_cons_zero, List.set_cons_succ]
  refine anyE_takeA (i := 4) (v := ?_) 95 rfl rfl (by kernel_rfl) (by decide) (fun _ _ _ h => h) (by kernel_rfl) (by kernel_rfl) (.inl ⟨by rfl, fun u hu => ?_⟩) hS ?_
  rotate_left
  · (go_simp; first | done | with_reducible rfl)
  try simp only [Act.put, List.setIfInBounds_toArray, List.set_cons_zero, List.set_cons_succ]
  refine anyE_takeA (i := 5) (v := ?_) 96 rfl rfl (by kernel_rfl) (by decide) (fun _ _ _ h => h) (by kernel_rfl) (by kernel_rfl) (.inl ⟨by rfl, fun u hu => ?_⟩) hS ?_
  rotate_left
  · (go_simp; first | done | with_reducible rfl)
  try simp only [Act.put, List.setIfInBounds_toArray, List.set_cons_zero, List.set_cons_succ]
  refine anyE_takeA (i := 6) (v := ?_) 97 rfl rfl (by kernel_rfl) (by decide) (fun _ _ _ h => h) (by kernel_rfl) (by kernel_rfl) (.inl ⟨by rfl, fun u hu => ?_⟩) hS ?_
  rotate_left
  · (go_simp; first | done | with_reducible rfl)
  try simp only [Act.put, List.setIfInBounds_toArray, List.set_cons_zero, List.set_cons_succ]
  refine anyE_takeA (i := 7) (v := ?_) 98 rfl rfl (by kernel_rfl) (by decide) (fun _ _ _ h => h) (by kernel_rfl) (by kernel_rfl) (.inl ⟨by rfl, fun u hu => ?_⟩) hS ?_
  rotate_left
  · (go_simp; first | done | with_reducible rfl)
  try simp only [Act.put, List.setIfInBounds_toArray, List.set_cons_zero, List.set_cons_succ]
  refine anyE_takeA (i := 8) (v := ?_) 99 rfl rfl (by kernel_rfl) (by decide) (fun _ _ _ h => h) (by kernel_rfl) (by kernel_rfl) (.inl ⟨by rfl, fun u hu => ?_⟩) hS ?_
  rotate_left
  · (go_simp; first | done | with_reducible rfl)
  try simp only [Act.put, List.setIfInBounds_toArray, List.set_cons_zero, List.set_cons_succ]
  refine anyE_takeA (i := 9) (v := ?_) 100 rfl rfl (by kernel_rfl) (by decide) (fun _ _ _ h => h) (by kernel_rfl) (by kernel_rfl) (.inl ⟨by rfl, fun u hu => ?_⟩) hS ?_
  rotate_left
  · (go_simp; first | done | with_reducible rfl)
  try simp only [Act.put, List.setIfInBounds_toArray, List.set_cons_zero, List.set_cons_succ]
  refine anyE_takeA (i := 10) (v := ?_) 101 rfl rfl (by kernel_rfl) (by decide) (fun _ _ _ h => h) (by kernel_rfl) (by kernel_rfl) (.inl ⟨by rfl, fun u hu => ?_⟩) hS ?_
  rotate_left
  · (go_simp; first | done | with_reducible rfl)
  try simp only [Act.put, List.setIfInBounds_toArray, List.set_cons_zero, List.set_cons_succ]
  refine anyE_takeA (i := 11) (v := ?_) 102 rfl rfl (by kernel_rfl) (by decide) (fun _ _ _ h => h) (by kernel_rfl) (by kernel_rfl) (.inl ⟨by rfl, fun u hu => ?_⟩) hS ?_
  rotate_left
  · (go_simp; first | done | with_reducible rfl)
  try simp only [Act.put, List.setIfInBounds_toArray, List.set_cons_zero, List.set_cons_succ]
  refine anyE_takeA (i := 12) (v := ?_) 103 rfl rfl (by kernel_rfl) (by decide) (fun _ _ _ h => h) (by kernel_rfl) (by kernel_rfl) (.inl ⟨by rfl, fun u hu => ?_⟩) hS ?_
  rotate_left
  · (go_simp; first | done | with_reducible rfl)
  try simp only [Act.put, List.setIfInBounds_toArray, List.set_cons_zero, List.set_cons_succ]
  refine anyE_takeA (i := 13) (v := ?_) 104 rfl rfl (by kernel_rfl) (by decide) (fun _ _ _ h => h) (by kernel_rfl) (by kernel_rfl) (.inl ⟨by rfl, fun u hu => ?_⟩) hS ?_
  rotate_left
  · (go_simp; first | done | with_reducible rfl)
  try simp only [Act.put, List.setIfInBounds_toArray, List.set_cons_zero, List.set_cons_succ]
  refine anyE_takeA (i := 14) (v := ?_) 105 rfl rfl (by kernel_rfl) (by decide) (fun _ _ _ h => h) (by kernel_rfl) (by kernel_rfl) (.inl ⟨by rfl, fun u hu => ?_⟩) hS ?_
  rotate_left
  · (go_simp; first | done | with_reducible rfl)
  try simp only [Act.put, List.setIfInBounds_toArray, List.set_cons_zero, List.set_cons_succ]
  refine anyE_takeA (i := 15) (v := ?_) 106 rfl rfl (by kernel_rfl) (by decide) (fun _ _ _ h => h) (by kernel_rfl) (by kernel_rfl) (.inl ⟨by rfl, fun u hu => ?_⟩) hS ?_
  rotate_left
  · (go_simp; first | done | with_reducible rfl)
  try simp only [Act.put, List.setIfInBounds_toArray, List.set_cons_zero, List.set_cons_succ]
  refine anyE_takeA (i := 16) (v := ?_) 107 rfl rfl (by kernel_rfl) (by decide) (fun _ _ _ h => h) (by kernel_rfl) (by kernel_rfl) (.inl ⟨by rfl, fun u hu => ?_⟩) hS ?_
  rotate_left
  · (go_simp; first | done | with_reducible rfl)
  try simp only [Act.put, List.setIfInBounds_toArray, List.set_cons_zero, List.set_cons_succ]
  refine anyE_takeA (i := 17) (v := ?_) 108 rfl rfl (by kernel_rfl) (by decide) (fun _ _ _ h => h) (by kernel_rfl) (by kernel_rfl) (.inl ⟨by rfl, fun u hu => ?_⟩) hS ?_
  rotate_left
  · (go_simp; first | done | with_reducible rfl)
  try simp only [Act.put, List.setIfInBounds_toArray, List.set_cons_zero, List.set_cons_succ]
  refine anyE_takeA (i := 18) (v := ?_) 109 rfl rfl (by kernel_rfl) (by decide) (fun _ _ _ h => h) (by kernel_rfl) (by kernel_rfl) (.inl ⟨by rfl, fun u hu => ?_⟩) hS ?_
  rotate_left
  · (go_simp; first | done | with_reducible rfl)
  try simp only [Act.put, List.setIfInBounds_toArray, List.set_cons_zero, List.set_cons_succ]
  refine anyE_takeA (i := 19) (v := ?_) 110 rfl rfl (by kernel_rfl) (by decide) (fun _ _ _ h => h) (by kernel_rfl) (by kernel_rfl) (.inl ⟨by rfl, fun u hu => ?_⟩) hS ?_
  rotate_left
  · (go_simp; first | done | with_reducible rfl)
  try simp only [Act.put, List.setIfInBounds_toArray, List.set_cons_zero, List.set_cons_succ]
  refine anyE_takeA (i := 20) (v := ?_) 111 rfl rfl (by kernel_rfl) (by decide) (fun _ _ _ h => h) (by kernel_rfl) (by kernel_rfl) (.inl ⟨by rfl, fun u hu => ?_⟩) hS ?_
  rotate_left
  · (go_simp; first | done | with_reducible rfl)
  try simp only [Act.put, List.setIfInBounds_toArray, List.set_cons_zero, List.set_cons_succ]
  refine anyE_takeA (i := 21) (v := ?_) 112 rfl rfl (by kernel_rfl) (by decide) (fun _ _ _ h => h) (by kernel_rfl) (by kernel_rfl) (.inl ⟨by rfl, fun u hu => ?_⟩) hS ?_
  rotate_left
  · (go_simp; first | done | with_reducible rfl)
  try simp only [Act.put, List.setIfInBounds_toArray, List.set_cons_zero, List.set_cons_succ]
  refine anyE_takeA (i := 22) (v := ?_) 113 rfl rfl (by kernel_rfl) (by decide) (fun _ _ _ h => h) (by kernel_rfl) (by kernel_rfl) (.inl ⟨by rfl, fun u hu => ?_⟩) hS ?_
  rotate_left
  · (go_simp; first | done | with_reducible rfl)
  try simp only [Act.put, List.setIfInBounds_toArray, List.set_cons_zero, List.set_cons_succ]
  refine anyE_takeA (i := 23) (v := ?_) 114 rfl rfl (by kernel_rfl) (by decide) (fun _ _ _ h => h) (by kernel_rfl) (by kernel_rfl) (.inl ⟨by rfl, fun u hu => ?_⟩) hS ?_
  rotate_left
  · (go_simp; first | done | with_reducible rfl)
  try simp only [Act.put, List.setIfInBounds_toArray, List.set_cons_zero, List.set_cons_succ]
  refine anyE_takeA (i := 24) (v := ?_) 115 rfl rfl (by kernel_rfl) (by decide) (fun _ _ _ h => h) (by kernel_rfl) (by kernel_rfl) (.inl ⟨by rfl, fun u hu => ?_⟩) hS ?_
  rotate_left
  · (go_simp; first | done | with_reducible rfl)
  try simp only [Act.put, List.setIfInBounds_toArray, List.set_cons_zero, List.set_cons_succ]
  refine anyE_takeA (i := 25) (v := ?_) 116 rfl rfl (by kernel_rfl) (by decide) (fun _ _ _ h => h) (by kernel_rfl) (by kernel_rfl) (.inl ⟨by rfl, fun u hu => ?_⟩) hS ?_
  rotate_left
  · (go_simp; first | done | with_reducible rfl)
  try simp only [Act.put, List.setIfInBounds_toArray, List.set_cons_zero, List.set_cons_succ]
  refine anyE_takeA (i := 26) (v := ?_) 117 rfl rfl (by kernel_rfl) (by decide) (fun _ _ _ h => h) (by kernel_rfl) (by kernel_rfl) (.inl ⟨by rfl, fun u hu => ?_⟩) hS ?_
  rotate_left
  · (go_simp; first | done | with_reducible rfl)
  try simp only [Act.put, List.setIfInBounds_toArray, List.set_cons_zero, List.set_cons_succ]
  refine anyE_takeA (i := 27) (v := ?_) 118 rfl rfl (by kernel_rfl) (by decide) (fun _ _ _ h => h) (by kernel_rfl) (by kernel_rfl) (.inl ⟨by rfl, fun u hu => ?_⟩) hS ?_
  rotate_left
  · (go_simp; first | done | with_reducible rfl)
  try simp only [Act.put, List.setIfInBounds_toArray, List.set_cons_zero, List.set_cons_succ]
  refine anyE_takeA (i := 28) (v := ?_) 119 rfl rfl (by kernel_rfl) (by decide) (fun _ _ _ h => h) (by kernel_rfl) (by kernel_rfl) (.inl ⟨by rfl, fun u hu => ?_⟩) hS ?_
  rotate_left
  · (go_simp; first | done | with_reducible rfl)
  try simp only [Act.put, List.setIfInBounds_toArray, List.set_cons_zero, List.set_cons_succ]
  refine anyE_takeA (i := 29) (v := ?_) 120 rfl rfl (by kernel_rfl) (by decide) (fun _ _ _ h => h) (by kernel_rfl) (by kernel_rfl) (.inl ⟨by rfl, fun u hu => ?_⟩) hS ?_
  rotate_left
  · (go_simp; first | done | with_reducible rfl)
  try simp only [Act.put, List.setIfInBounds_toArray, List.set_cons_zero, List.set_cons_succ]
  refine anyE_takeA (i := 30) (v := ?_) 121 rfl rfl (by kernel_rfl) (by decide) (fun _ _ _ h => h) (by kernel_rfl) (by kernel_rfl) (.inl ⟨by rfl, fun u hu => ?_⟩) hS ?_
  rotate_left
  · (go_simp; first | done | with_reducible rfl)
  try simp only [Act.put, List.setIfInBounds_toArray, List.set_cons_zero, List.set_cons_succ]
  refine anyE_takeA (i := 31) (v := ?_) 122 rfl rfl (by kernel_rfl) (by decide) (fun _ _ _ h => h) (by kernel_rfl) (by kernel_rfl) (.inl ⟨by rfl, fun u hu => ?_⟩) hS ?_
  rotate_left
  · (go_simp; first | done | with_reducible rfl)
  try simp only [Act.put, List.setIfInBounds_toArray, List.set_cons_zero, List.set_cons_succ]
  refine anyE_takeA (i := 32) (v := ?_) 123 rfl rfl (by kernel_rfl) (by decide) (fun _ _ _ h => h) (by kernel_rfl) (by kernel_rfl) (.inl ⟨by rfl, fun u hu => ?_⟩) hS ?_
  rotate_left
  · (go_simp; first | done | with_reducible rfl)
  try simp only [Act.put, List.setIfInBounds_toArray, List.set_cons_zero, List.set_cons_succ]
  refine anyE_takeA (i := 33) (v := ?_) 124 rfl rfl (by kernel_rfl) (by decide) (fun _ _ _ h => h) (by kernel_rfl) (by kernel_rfl) (.inl ⟨by rfl, fun u hu => ?_⟩) hS ?_
  rotate_left
  · (go_simp; first | done | with_reducible rfl)
  try simp only [Act.put, List.setIfInBounds_toArray, List.set_cons_zero, List.set_cons_succ]
  refine anyE_takeA (i := 34) (v := ?_) 125 rfl rfl (by kernel_rfl) (by decide) (fun _ _ _ h => h) (by kernel_rfl) (by kernel_rfl) (.inl ⟨by rfl, fun u hu => ?_⟩) hS ?_
  rotate_left
  · (go_simp; first | done | with_reducible rfl)
  try simp only [Act.put, List.setIfInBounds_toArray, List.set_cons_zero, List.set_cons_succ]
  refine anyE_takeA (i := 35) (v := ?_) 126 rfl rfl (by kernel_rfl) (by decide) (fun _ _ _ h => h) (by kernel_rfl) (by kernel_rfl) (.inl ⟨by rfl, fun u hu => ?_⟩) hS ?_
  rotate_left
  · (go_simp; first | done | with_reducible rfl)
  try simp only [Act.put, List.setIfInBounds_toArray, List.set_cons_zero, List.set_cons_succ]
  refine anyE_takeA (i := 37) (v := ?_) 128 rfl rfl (by kernel_rfl) (by decide) (fun _ _ _ h => h) (by kernel_rfl) (by kernel_rfl) (.inl ⟨by rfl, fun u hu => ?_⟩) hS ?_
  rotate_left
  · (go_simp; first | done | with_reducible rfl)
  try simp only [Act.put, List.setIfInBounds_toArray, List.set_cons_zero, List.set_cons_succ]
  refine anyE_takeA (i := 38) (v := ?_) 129 rfl rfl (by kernel_rfl) (by decide) (fun _ _ _ h => h) (by kernel_rfl) (by kernel_rfl) (.inl ⟨by rfl, fun u hu => ?_⟩) hS ?_
  rotate_left
  · (go_simp; first | done | with_reducible rfl)
  try simp only [Act.put, List.setIfInBounds_toArray, List.set_cons_zero, List.set_cons_succ]
  refine anyE_takeA (i := 39) (v := ?_) 130 rfl rfl (by kernel_rfl) (by decide) (fun _ _ _ h => h) (by kernel_rfl) (by kernel_rfl) (.inl ⟨by rfl, fun u hu => ?_⟩) hS ?_
  rotate_left
  · (go_simp; first | done | with_reducible rfl)
  try simp only [Act.put, List.setIfInBounds_toArray, List.set_cons_zero, List.set_cons_succ]
  refine anyE_oneG (i := 36) rfl (by kernel_rfl) (by rfl) (fun K hK => ?_)
  go_simp
  obtain ⟨g13, hg13⟩ : ∃ g, u0.heap.size = g := ⟨_, rfl⟩
  generalize hWz : World.alloc u0 _ = u1
  have hP : Blk u1 g13 48 (ptrs g7 (k * 11)) := by rw [← hWz]; exact Blk.new hg13 rfl
  have hup : Up u0 u1 := by rw [← hWz]; exact (Up.refl _).alloc _
  try rw [hg13]
  have hS' := hS.trans hup
  refine hK.out _ _ (.inr hS') ?_
  clear hK hWz hS hup hg13
  have hS := hS'
  clear hS'
  try simp only [Act.put, List.setIfInBounds_toArray, List.set_cons_zero, List.set_cons_succ]
  refine anyE_oneG (i := 40) rfl (by kernel_rfl) (by rfl) (fun K hK => ?_)
  go_simp
  refine hK.out _ _ (.inr hS) ?_
  clear hK
  try simp only [Act.put, List.setIfInBounds_toArray, List.set_cons_zero, List.set_cons_succ]
  refine anyE_oneG (i := 41) rfl (by kernel_rfl) (by rfl) (fun K hK => ?_)
  have zq : u1.cell? ⟨g13, q, none⟩ = some (.pointer (some ⟨g7, k * 11 + q, none⟩)) := by rw [Blk.read hP]; exact ptrs_at hq11
  go_simp
  refine hK.out _ _ (.inr hS) ?_
  clear hK zq
  try simp only [Act.put, List.setIfInBounds_toArray, List.set_cons_zero, List.set_cons_succ]
  refine anyE_takeA (i := 42) (v := ?_) 21 rfl rfl (by kernel_rfl) (by decide) (fun _ _ _ h => h) (by kernel_rfl) (by kernel_rfl) (.inl ⟨by rfl, fun u hu => ?_⟩) hS ?_
  rotate_left
  · (go_simp; first | done | with_reducible rfl)
  try simp only [Act.put, List.setIfInBounds_toArray, List.set_cons_zero, List.set_cons_succ]
  refine anyE_done (by kernel_rfl) ?_ _
  have hS : Up w9 u1 := hS
  have HK10 := hid (HK9.out.up hS)
  have HO10 := hid (HO9.out.up hS)
  have HX10 := hid (HX9.out.trans hS)
  clear hS HK9 HO9 HX9
  obtain ⟨hbg, x0, cs0, hB0, hx0⟩ := ownR_cell HO10.out (by rw [HM.out]; exact hkm) hq11
  have zx := hB0.val hx0
  have zy := hB0.thawed (k * 11 + q)
  obtain ⟨l2, hl2⟩ : ∃ l2, chR l k q z = l2 := ⟨_, rfl⟩
  have HM2 : Hid (l2.length = m) := hid (by rw [← hl2, chR_length]; exact HM.out)
  have HI2 : Hid (∀ r ∈ l2, RecI r) := hid (by rw [← hl2]; exact chR_int HI.out (by rw [HM.out]; exact hkm) HZz.out)
  obtain ⟨w11, hw11⟩ : ∃ w11, u1.setCell ⟨g7, k * 11 + q, none⟩ (.int .i64 z) = w11 := ⟨_, rfl⟩
  have HR11 : Hid (RecsAt w11 (.slice (some ⟨g7, 0, none⟩) m c7) l2) := hid (by rw [← hw11, ← hl2]; exact (HO10.out.putCell (by rw [HM.out]; exact hkm) hq11 z).recs)
  have HK11 : Hid (Blk w11 p 35 #[.slice (some ⟨g7, 0, none⟩) m c7, .int .i64 cc, .int .i64 ss]) := hid (by rw [← hw11]; exact HK10.out.apart (a := ⟨g7, k * 11 + q, none⟩) (show p ≠ g7 by omega) _)
  have HX11 : Hid (Up w1 w11) := hid (by rw [← hw11]; exact HX10.out.setCell (a := ⟨g7, k * 11 + q, none⟩) (show w1.heap.size ≤ g7 by omega) _)
  have HW11 := hid hw11
  clear hl2 hw11 HK10 HO10 HX10 hB0 hx0 HI HM
  clear hbg hkm hq11 hqi hqt hqw hwf hpl hs6 hP
  obtain ⟨a7, ha7⟩ : ∃ a7 : Option Addr, some ⟨g7, 0, none⟩ = a7 := ⟨_, rfl⟩
  rw [ha7] at HR11 HK11
  clear ha7
  have k0 := HK11.out.val (i := 0) rfl
  obtain ⟨L, hL⟩ : ∃ L, w11.heap.size = L := ⟨_, rfl⟩
  obtain ⟨b, hb⟩ : ∃ b, L + 1 = b := ⟨_, rfl⟩
  obtain ⟨BB, hBB⟩ : ∃ BB, b + 1 = BB := ⟨_, rfl⟩
  have HL := hid hL
  have Hb := hid hb
  have hLb : L < b := by omega
  have hbB : b < BB := by omega
  have hBb : BB ≤ b + 1 := by omega
  have hwL : w11.heap.size ≤ L := by omega
  have hpL : p < w11.heap.size := HK11.out.lt
  have HwL := hid hwL
  have Hwb : Hid (w11.heap.size ≤ b) := hid (by omega)
  have N1 := hid (fun (x : Rec) w' => eItem_ok x.kd x.nr x.co x.iv x.ni x.ka x.kb x.kc x.st x.un x.ac w')
  have N2 := hid (fun (x : Rec) w' (hU : Up w w') => eValid_any P Q G A B C x.kd x.nr x.co x.iv x.ni x.ka x.kb x.kc x.st x.un x.ac w' HPQ.out.1 HPQ.out.2 (HT.out.up hU))
  have HL0 : Hid (Blk ((w11.alloc (.cells #[.int .i64 3, .int .i64 0, nilS, nilS] 53)).alloc (.map #[] 0)) L 53 #[.int .i64 3, .int .i64 0, nilS, nilS]) := hid ((Blk.new hL rfl).alloc _)
  have HS0 : Hid (SetAt ((w11.alloc (.cells #[.int .i64 3, .int .i64 0, nilS, nilS] 53)).alloc (.map #[] 0)) b 0 (seenL l2 0)) := hid (by
    have h := SetAt.made (w11.alloc (.cells #[.int .i64 3, .int .i64 0, nilS, nilS] 53))
    rw [show (w11.alloc (.cells #[.int .i64 3, .int .i64 0, nilS, nilS] 53)).heap.size = b by simp; omega] at h
    exact h)
  have HU0 : Hid (Up w11 ((w11.alloc (.cells #[.int .i64 3, .int .i64 0, nilS, nilS] 53)).alloc (.map #[] 0))) := hid (((Up.refl w11).alloc _).alloc _)
  clear hL hb hBB
  have hmm := @run_makeMap Tryd.prog
  go_wp2_with (rw [HW11.out])
  clear HW11 zx zy hmm
  rw [HL.out]
  try rw [Hb.out]
  rw [show w11.alloc (.cells #[.int .i64 3, .int .i64 0, .slice none 0 0, .slice none 0 0] 53) = w11.alloc (.cells #[.int .i64 3, .int .i64 0, nilS, nilS] 53) from rfl]
  generalize (w11.alloc (.cells #[.int .i64 3, .int .i64 0, nilS, nilS] 53)).alloc (.map #[] 0) = w12 at *
  clear k0
  go_loopw [24, 141] (fun vf vi wr => ∃ (i : Nat) (ad : Option Addr) (cp : Nat) (qs : List Quad), i ≤ m ∧ vf = .bool (okB P Q G A B C l2 i) ∧ vi = .int .i64 i ∧ Hid (Blk wr L 53 #[.int .i64 3, .int .i64 0, nilS, .slice ad i cp]) ∧ Hid (qs.length = i) ∧ Hid (OwnQ 53 wr BB (.slice ad i cp) qs) ∧ Hid (LstAt wr qs (l2.take i)) ∧ Hid (SetAt wr b i (seenL l2 i)) ∧ Hid (Up w11 wr)) (fun _ vi _ => m - (intOf vi).toNat)
  case atStart => exact ⟨0, none, 0, [], by omega, rfl, rfl, HL0, hid rfl, hid ownQ_none, hid ⟨rfl, fun j hj => by simp at hj⟩, HS0, HU0⟩
  case round =>
    clear HL0 HS0 HU0
    obtain ⟨i, ad, cp, qs, hi, rfl, rfl, HL, HLn, HQ, HLs, HS, HU⟩ := hrel
    have lL : L < wr.heap.size := HL.out.lt
    have lb : b < wr.heap.size := HS.out.lt
    obtain ⟨⟨c0, c1, c2⟩, c3, c4, c5⟩ := HA1.out.up (HX11.out.trans HU.out)
    by_cases hlt : i < m
    · have hlx : i < l2.length := by rw [HM2.out]; exact hlt
      obtain ⟨g, off, rfl, hx2⟩ := recs_cell HR11.out HU.out hlx
      have M1 := hid (fun w' => N1.out (l2.getD i rec0) w')
      have V1 := hid (fun w' (hU : Up w w') => N2.out (l2.getD i rec0) w' hU)
      have HAp := hid (fun (w' : World) (qs' : List Quad) (v' : Value) (h : LstAt w' qs' (l2.take i)) (hv : IntItems w' v' (l2.getD i rec0).nums) (hc : CapOk v' 11) => h.app hlx hv hc)
      have HIx := hid (HI2.out _ (recs_mem hlx))
      have HNx := hid (seenL_succ hlx)
      have HOk := hid (okB_succ P Q G A B C l2 i)
      unfold recR at HOk
      clear hlx
      generalize l2.getD i rec0 = x at M1 V1 HAp HIx HNx HOk hx2
      obtain ⟨q0, q1, q2, q3, q4, q5, q6, q7, q8, q9, q10⟩ := hx2
      obtain ⟨kd, nr, co, iv, ni, ka, kb, kc, st, un, ac⟩ := x
      dsimp only at q0 q1 q2 q3 q4 q5 q6 q7 q8 q9 q10 M1 V1 HOk
      obtain ⟨i1, i2, i3⟩ := HIx.out
      dsimp only at i1 i2 i3
      have I1 := hid i1
      have I2 := hid i2
      have I3 := hid i3
      have hnums : (⟨kd, nr, co, iv, ni, ka, kb, kc, st, un, ac⟩ : Rec).nums = [kd, nr, co, iv, ni, ka, kb, kc, st, un, ac] := rfl
      rw [hnums] at HAp
      have hx11 : [kd, nr, co, iv, ni, ka, kb, kc, st, un, ac].length = 11 := rfl
      generalize [kd, nr, co, iv, ni, ka, kb, kc, st, un, ac] = xs at *
      have ht3 : tri ⟨kd, nr, co, iv, ni, ka, kb, kc, st, un, ac⟩ = (kd, nr, co) := rfl
      rw [ht3] at HNx HOk
      unfold epo epoA at M1 V1
      generalize recB P Q G A B C kd nr co iv ni ka kb kc st un ac = t at *
      obtain ⟨Si, hSi⟩ : ∃ S, seenL l2 i = S := ⟨_, rfl⟩
      rw [hSi] at HS HNx HOk
      obtain ⟨cc', hcc⟩ : ∃ c, Si.contains (kd, nr, co) = c := ⟨_, rfl⟩
      have HCc := hid hcc
      rw [hcc] at HOk
      generalize okB P Q G A B C l2 i = fl at *
      have HSi := hid hSi
      clear i1 i2 i3 HIx hnums ht3 hSi hcc
      have hgl : g < wr.heap.size := cell_lt q0
      obtain ⟨gx, hgx⟩ : ∃ gx, wr.heap.size = gx := ⟨_, rfl⟩
      obtain ⟨w1', hw1⟩ : ∃ w1', wr.alloc (.cells #[.int .i64 kd, .int .i64 nr, .int .i64 co, .int .i64 iv, .int .i64 ni, .int .i64 ka, .int .i64 kb, .int .i64 kc, .int .i64 st, .int .i64 un, .int .i64 ac] 46) = w1' := ⟨_, rfl⟩
      have hup1 : Up wr w1' := by rw [← hw1]; exact (Up.refl wr).alloc _
      have HB : Hid (MsgS L gx i ad cp #[.int .i64 kd, .int .i64 nr, .int .i64 co, .int .i64 iv, .int .i64 ni, .int .i64 ka, .int .i64 kb, .int .i64 kc, .int .i64 st, .int .i64 un, .int .i64 ac] w11 w1') := hid ⟨HL.out.up hup1, by rw [← hw1]; exact Blk.new hgx rfl, HU.out.trans hup1⟩
      have HQ := hid (HQ.out.up hup1)
      have HLs := hid (HLs.out.up hup1)
      have HS := hid (HS.out.up hup1)
      have HW1 := hid hw1
      have HGx := hid hgx
      clear hup1 hw1 hgx
      go_wp2_with fail
      try rw [HGx.out]
      rw [HW1.out]
      clear HW1 HGx q0 q1 q2 q3 q4 q5 q6 q7 q8 q9 q10 hgl HU HL c0 c1 c2 c3 c4 c5 lL lb
      refine region_E (MsgS L gx i ad cp #[.int .i64 kd, .int .i64 nr, .int .i64 co, .int .i64 iv, .int .i64 ni, .int .i64 ka, .int .i64 kb, .int .i64 kc, .int .i64 st, .int .i64 un, .int .i64 ac] w11) 7 (by kernel_rfl) (HB.out.up (Up.refl _).drew) fun hS => ?_
      have hQ0 := HQ.out.up (Up.refl w1').drew
      have hL0 := HLs.out.up (Up.refl w1').drew
      have hM0 := HS.out.up (Up.refl w1').drew
      generalize w1'.drew = u0 at *
      refine anyE_take (i := 0) (v := ?_) 145 rfl rfl (by kernel_rfl) (by kernel_rfl) (by decide) (fun _ _ _ h => h) (by kernel_rfl) (by kernel_rfl) (.inl ⟨by rfl, fun u hu => ?_⟩) hS ?_
      rotate_left
      · (go_simp; first | done | with_reducible rfl)
      try simp only [Act.put, List.setIfInBounds_toArray, List.set_cons_zero, List.set_cons_succ]
      refine anyE_take (i := 1) (v := ?_) 146 rfl rfl (by kernel_rfl) (by kernel_rfl) (by decide) (fun _ _ _ h => h) (by kernel_rfl) (by kernel_rfl) (.inl ⟨by rfl, fun u hu => ?_⟩) hS ?_
      rotate_left
      · (obtain ⟨u1, u2, u3⟩ := hu; have p3 := u1.val (i := 3) rfl; have t0 := u2.val (i := 0) rfl; have t1 := u2.val (i := 1) rfl; have t2 := u2.val (i := 2) rfl; have t3 := u2.val (i := 3) rfl; have t4 := u2.val (i := 4) rfl; have t5 := u2.val (i := 5) rfl; have t6 := u2.val (i := 6) rfl; have t7 := u2.val (i := 7) rfl; have t8 := u2.val (i := 8) rfl; have t9 := u2.val (i := 9) rfl; have t10 := u2.val (i := 10) rfl; go_simp; first | done | with_reducible rfl)
      try simp only [Act.put, List.setIfInBounds_toArray, List.set_cons_zero, List.set_cons_succ]
      refine anyE_take (i := 2) (v := ?_) 147 rfl rfl (by kernel_rfl) (by kernel_rfl) (by decide) (fun _ _ _ h => h) (by kernel_rfl) (by kernel_rfl) (.inl ⟨by rfl, fun u hu => ?_⟩) hS ?_
      rotate_left
      · (obtain ⟨u1, u2, u3⟩ := hu; have p3 := u1.val (i := 3) rfl; have t0 := u2.val (i := 0) rfl; have t1 := u2.val (i := 1) rfl; have t2 := u2.val (i := 2) rfl; have t3 := u2.val (i := 3) rfl; have t4 := u2.val (i := 4) rfl; have t5 := u2.val (i := 5) rfl; have t6 := u2.val (i := 6) rfl; have t7 := u2.val (i := 7) rfl; have t8 := u2.val (i := 8) rfl; have t9 := u2.val (i := 9) rfl; have t10 := u2.val (i := 10) rfl; go_simp; first | done | with_reducible rfl)
      try simp only [Act.put, List.setIfInBounds_toArray, List.set_cons_zero, List.set_cons_succ]
      refine anyE_oneG (i := 3) rfl (by kernel_rfl) (by rfl) (fun K hK => ?_)
      go_simp
      refine (M1.out u0).mono ?_
      rintro e u1 ⟨l1, rfl, ⟨base1, hq1, hb1⟩, hup⟩
      try dsimp only
      have hS1 := MsgS.up hS hup
      have hQ1 := hQ0.up hup
      have hL1 := hL0.up hup
      have hM1 := hM0.up hup
      have hnew := fun b n c hv => newer (b := b) (n := n) (c := c) hQ0 hq1 hb1 hv
      have hI1 := OwnQ.ints hq1
      have hC1 := ownQ_cap hq1
      rw [List.length_map, hx11] at hC1
      refine hK.out _ _ (.inr hS1) ?_
      clear hK hS hup hQ0 hL0 hM0
      try simp only [Act.put, List.setIfInBounds_toArray, List.set_cons_zero, List.set_cons_succ]
      refine anyE_oneG (i := 4) rfl (by kernel_rfl) (by rfl) (fun K hK => ?_)
      obtain ⟨la, lc, hle⟩ := hq1.shape
      rw [List.length_map, hx11] at hle
      subst hle
      go_simp
      have hup2 := (Up.refl u1).alloc (.cells #[.int .i64 3, .int .i64 0, nilS, .slice la 11 lc] 53)
      have hS2 := MsgS.up hS1 hup2
      refine hK.out _ _ (.inr hS2) ?_
      clear hK
      try simp only [Act.put, List.setIfInBounds_toArray, List.set_cons_zero, List.set_cons_succ]
      have hQ2 := hQ1.up hup2
      have hL2 := hL1.up hup2
      have hM2 := hM1.up hup2
      have hI2 := hI1.up hup2
      have hs2 : u1.heap.size ≤ (u1.alloc (.cells #[.int .i64 3, .int .i64 0, nilS, .slice la 11 lc] 53)).heap.size := hup2.size
      have hBu : BB ≤ (u1.alloc (.cells #[.int .i64 3, .int .i64 0, nilS, .slice la 11 lc] 53)).heap.size := by have := hM2.lt; omega
      refine anyE_oneG (i := 5) rfl (by kernel_rfl) (by rfl) (fun K hK => ?_)
      refine op_appQ infoItm rfl Tryd.underlying51 (by omega) _ _ rfl BB rfl hQ2 u1.heap.size 1 (news := [⟨3, 0, nilS, .slice la 11 lc⟩]) rfl (fun j hj => by (obtain rfl : j = 0 := (by simp at hj; omega)); exact itm_new rfl) (fun j hj => by (obtain rfl : j = 0 := (by simp at hj; omega)); exact ⟨rfl, rfl⟩) (by have := HLn.out; simp only [List.length_singleton]; omega) hBu ?_
      intro v5 w5 hO5 hg5
      have hB5 := hQ2.below hg5 hBu
      have hS5 : MsgS L gx i ad cp #[.int .i64 kd, .int .i64 nr, .int .i64 co, .int .i64 iv, .int .i64 ni, .int .i64 ka, .int .i64 kb, .int .i64 kc, .int .i64 st, .int .i64 un, .int .i64 ac] w11 w5 := ⟨hS2.1.below hB5 (by omega), hS2.2.1.grown hg5 (ownQ_apart hQ2 hS2.2.1 (by decide)), up_below hS2.2.2 hB5 (by omega)⟩
      have hL5 := hL2.grown hQ2 hg5
      have hM5 := hM2.kept hg5 (fun e => hM2.apartQ hQ2 b e.symm rfl)
      have hI5 := hI2.grown hg5 (fun _ b n c hv => hnew b n c hv)
      have hA5 := HAp.out w5 _ _ hL5 hI5 hC1
      obtain ⟨a5, c5, rfl⟩ := hO5.shape
      rw [List.length_append, HLn.out, List.length_singleton] at hO5 ⊢
      change K (Act.put _ (some 150) _) _
      refine hK.out _ _ (.inr hS5) ?_
      clear hK
      try simp only [Act.put, List.setIfInBounds_toArray, List.set_cons_zero, List.set_cons_succ]
      refine anyE_take (i := 6) (v := ?_) 151 rfl rfl (by kernel_rfl) (by kernel_rfl) (by decide) (fun _ _ _ h => h) (by kernel_rfl) (by kernel_rfl) (.inl ⟨by rfl, fun u hu => ?_⟩) hS5 ?_
      rotate_left
      · (go_simp; first | done | with_reducible rfl)
      try simp only [Act.put, List.setIfInBounds_toArray, List.set_cons_zero, List.set_cons_succ]
      have k3 := hS5.1.val (i := 3) rfl
      have y3 := hS5.1.thawed 3
      refine anyE_oneG (i := 7) rfl (by kernel_rfl) (by rfl) (fun K hK => ?_)
      go_simp
      refine hK.out _ _ (.inl rfl) (anyE_done (by kernel_rfl) ?_ _)
      clear hK
      have hwL : w11.heap.size ≤ L := HwL.out
      have hLg : gx ≠ L := by
        intro e
        subst e
        have h1 : w5.heap[gx]? = _ := hS5.1
        have h2 : w5.heap[gx]? = _ := hS5.2.1
        rw [h1] at h2
        simp only [Option.some.injEq, Obj.cells.injEq] at h2
        exact absurd h2.2.1 (by decide)
      have HL6 : Hid (Blk (w5.setCell ⟨L, 3, none⟩ (.slice a5 (i + 1) c5)) L 53 #[.int .i64 3, .int .i64 0, nilS, .slice a5 (i + 1) c5]) := hid (hS5.1.wrote 3 _)
      have HG6 := hid (hS5.2.1.apart (a := ⟨L, 3, none⟩) hLg (.slice a5 (i + 1) c5))
      have HQ6 := hid (hO5.set (a := ⟨L, 3, none⟩) (show L < BB by omega) (.slice a5 (i + 1) c5))
      have HLs6 := hid (LstAt.set hA5 hS5.1 rfl (.slice a5 (i + 1) c5))
      have HS6 := hid (hM5.setCell (a := ⟨L, 3, none⟩) (show b ≠ L by omega) (.slice a5 (i + 1) c5))
      have HU6 := hid (hS5.2.2.setCell (a := ⟨L, 3, none⟩) hwL (.slice a5 (i + 1) c5))
      have HLn6 : Hid ((qs ++ [(⟨3, 0, nilS, .slice la 11 lc⟩ : Quad)]).length = i + 1) := hid (by rw [List.length_append, HLn.out]; rfl)
      clear hS1 hS2 hS5 k3 y3 hQ1 hQ2 hL1 hL2 hL5 hI1 hI2 hI5 hA5 hO5 hM1 hM2 hM5 hg5 hB5 hnew hC1 hq1 hs2 hBu HB HQ HLs HS M1 HAp hwL hLg
      generalize w5.setCell ⟨L, 3, none⟩ (.slice a5 (i + 1) c5) = w6 at *
      obtain ⟨W7, hW7⟩ : ∃ W7, w6.alloc (.cells #[.int .i64 kd, .int .i64 nr, .int .i64 co] 56) = W7 := ⟨_, rfl⟩
      have hup7 : Up w6 W7 := by rw [← hW7]; exact (Up.refl w6).alloc _
      obtain ⟨kx, hkx⟩ : ∃ kx, w6.heap.size = kx := ⟨_, rfl⟩
      have HK7 : Hid (Blk W7 kx 56 #[.int .i64 kd, .int .i64 nr, .int .i64 co]) := hid (by rw [← hW7]; exact Blk.new hkx rfl)
      have HW7 := hid hW7
      have HKx := hid hkx
      have hlg : gx < w6.heap.size := HG6.out.lt
      have g0 := HG6.out.val (i := 0) rfl
      have g1 := HG6.out.val (i := 1) rfl
      have g2 := HG6.out.val (i := 2) rfl
      have HL7 := hid (HL6.out.up hup7)
      have HG7 := hid (HG6.out.up hup7)
      have HQ7 := hid (HQ6.out.up hup7)
      have HLs7 := hid (HLs6.out.up hup7)
      have HS7 := hid (HS6.out.up hup7)
      have HU7 := hid (HU6.out.trans hup7)
      clear hW7 hup7 hkx HL6 HG6 HQ6 HLs6 HS6 HU6
      have k0 := HK7.out.val (i := 0) rfl
      have k1 := HK7.out.val (i := 1) rfl
      have k2 := HK7.out.val (i := 2) rfl
      cases fl
      · go_wp2_with (first | rw [HW7.out, HKx.out] | (at_mapUpdate; refine wp_putS rfl _ _ _ rfl b i Si rfl HS7.out (by omega) kd nr co I1.out I2.out I3.out rfl rfl ?_; intro w9' hS9 hg9; rw [← HNx.out] at hS9))
        have HL9 := hid (HL7.out.grown hg9 (by simp; omega))
        have HQ9 := hid (OwnQ.keptB HQ7.out hg9 (HS7.out.apartQ HQ7.out))
        have HLs9 := hid (HLs7.out.kept HS7.out hg9)
        have HS9 := hid hS9
        have HU9 := hid (grown_setAt HU7.out Hwb.out hg9)
        clear hS9 hg9 k0 k1 k2 g0 g1 g2
        go_roundw
        case rel => exact ⟨i + 1, a5, c5, _, by omega, by rw [HOk.out]; rfl, by go_num, HL9, HLn6, HQ9, HLs9, HS9, HU9⟩
        case measure => simp [intOf]; omega
      · obtain ⟨⟨c0, c1, c2⟩, c3, c4, c5⟩ := HA1.out.up (HX11.out.trans HU7.out)
        have r0 := HG7.out.val (i := 0) rfl
        have r1 := HG7.out.val (i := 1) rfl
        have r2 := HG7.out.val (i := 2) rfl
        have r3 := HG7.out.val (i := 3) rfl
        have r4 := HG7.out.val (i := 4) rfl
        have r5 := HG7.out.val (i := 5) rfl
        have r6 := HG7.out.val (i := 6) rfl
        have r7 := HG7.out.val (i := 7) rfl
        have r8 := HG7.out.val (i := 8) rfl
        have r9 := HG7.out.val (i := 9) rfl
        have r10 := HG7.out.val (i := 10) rfl
        go_wp2_with (rw [HW7.out, HKx.out])
        refine (V1.out _ ((HU1.out.trans HX11.out).trans HU7.out)).mono ?_
        rintro e w8 ⟨rfl, hU8⟩
        have HL8 := hid (HL7.out.up hU8)
        have HQ8 := hid (HQ7.out.up hU8)
        have HLs8 := hid (HLs7.out.up hU8)
        have HS8 := hid (HS7.out.up hU8)
        have HK8 := hid (HK7.out.up hU8)
        have HU8 := hid (HU7.out.trans hU8)
        clear hU8 c0 c1 c2 c3 c4 c5 k0 k1 k2 r0 r1 r2 r3 r4 r5 r6 r7 r8 r9 r10 g0 g1 g2 HL7 HG7 HQ7 HLs7 HS7 HU7 HK7
        have k0 := HK8.out.val (i := 0) rfl
        have k1 := HK8.out.val (i := 1) rfl
        have k2 := HK8.out.val (i := 2) rfl
        cases t
        · go_wp2_with (at_mapUpdate; refine wp_putS rfl _ _ _ rfl b i Si rfl HS8.out (by omega) kd nr co I1.out I2.out I3.out rfl rfl ?_; intro w9' hS9 hg9; rw [← HNx.out] at hS9)
          have HL9 := hid (HL8.out.grown hg9 (by simp; omega))
          have HQ9 := hid (OwnQ.keptB HQ8.out hg9 (HS8.out.apartQ HQ8.out))
          have HLs9 := hid (HLs8.out.kept HS8.out hg9)
          have HS9 := hid hS9
          have HU9 := hid (grown_setAt HU8.out Hwb.out hg9)
          clear hS9 hg9 k0 k1 k2
          go_roundw
          case rel => exact ⟨i + 1, a5, c5, _, by omega, by rw [HOk.out]; rfl, by go_num, HL9, HLn6, HQ9, HLs9, HS9, HU9⟩
          case measure => simp [intOf]; omega
        · have hlk : (Instr.lookup 54 (.map (some b)) (.agg #[.int .i64 kd, .int .i64 nr, .int .i64 co]) false).run Tryd.prog w8 = .ok (.bool cc') w8 := by have h := HS8.out.look I1.out I2.out I3.out; rw [HCc.out] at h; exact h
          go_wp2_with (at_mapUpdate; refine wp_putS rfl _ _ _ rfl b i Si rfl HS8.out (by omega) kd nr co I1.out I2.out I3.out rfl rfl ?_; intro w9' hS9 hg9; rw [← HNx.out] at hS9)
          have HL9 := hid (HL8.out.grown hg9 (by simp; omega))
          have HQ9 := hid (OwnQ.keptB HQ8.out hg9 (HS8.out.apartQ HQ8.out))
          have HLs9 := hid (HLs8.out.kept HS8.out hg9)
          have HS9 := hid hS9
          have HU9 := hid (grown_setAt HU8.out Hwb.out hg9)
          clear hS9 hg9 k0 k1 k2 hlk
          go_roundw
          case rel => exact ⟨i + 1, a5, c5, _, by omega, by rw [HOk.out]; simp, by go_num, HL9, HLn6, HQ9, HLs9, HS9, HU9⟩
          case measure => simp [intOf]; omega
    · obtain rfl : i = m := by omega
      have HE := hid (fun (w' : World) (hU : Up wr w') => Encode_ok (d := 2) (lst_itm (HQ.out.up hU) (by have := HLs.out.up hU; rw [List.take_of_length_le (by rw [HM2.out]; omega)] at this; exact this) (by rw [HM2.out]; omega)) (by omega))
      have l0 := HL.out.val (i := 0) rfl
      have l1 := HL.out.val (i := 1) rfl
      have l2' := HL.out.val (i := 2) rfl
      have l3 := HL.out.val (i := 3) rfl
      clear HQ HLs HLn N1 N2 c0 c1 c2 c3 c4 c5
      go_wp2_with fail
      refine (HE.out _ (Up.refl _)).mono ?_
      rintro e w12 ⟨v2, rfl, hO2, hU2⟩
      have HU2 := hid (HU.out.trans hU2)
      have hml : (msgR l2).length ≤ 16384 := by rw [msgR_length, HM2.out]; omega
      rw [if_pos hml] at hO2 ⊢
      have HO2 := hid hO2.seq
      clear hU2 l0 l1 l2' l3 HE HL HU HS hO2 hml lL lb
      obtain ⟨⟨c0, c1, c2⟩, c3, c4, c5⟩ := HA1.out.up (HX11.out.trans HU2.out)
      have k0 := (HK11.out.up HU2.out).val (i := 0) rfl
      have k1 := (HK11.out.up HU2.out).val (i := 1) rfl
      have k2 := (HK11.out.up HU2.out).val (i := 2) rfl
      have M5b := M5.out (.slice a7 i c7) l2 Y cc ss w12 ((HU1.out.trans HX11.out).trans HU2.out) (HR11.out.up HU2.out) (by rw [HM2.out]; omega) HI2.out
      rw [vfy_ok HBv.out, HM2.out] at M5b
      have M7b := hid (fun w' (hU : Up w12 w') => M7.out v2 (msgR l2) Y cc ss w' (((HU1.out.trans HX11.out).trans HU2.out).trans hU) (HO2.out.up hU) (msgR_byt l2))
      generalize verS P Q G Y (msgR l2) cc ss = vb at *
      generalize okB P Q G A B C l2 i = fl at *
      have evb : (vb == vb) = true := by simp
      have M5b := hid M5b
      go_wp2_with fail
      refine M5b.out.mono ?_
      rintro e w13 ⟨rfl, hU3⟩
      have HU3 := hid (HU2.out.trans hU3)
      have HU3' := hid hU3
      clear c0 c1 c2 c3 c4 c5 k0 k1 k2 hU3 M5b
      cases fl
      · go_wp2
        go_ret
        exact ⟨rfl, (HU1.out.trans HX11.out).trans HU3.out⟩
      · obtain ⟨⟨c0, c1, c2⟩, c3, c4, c5⟩ := HA1.out.up (HX11.out.trans HU3.out)
        have k0 := (HK11.out.up HU3.out).val (i := 0) rfl
        have k1 := (HK11.out.up HU3.out).val (i := 1) rfl
        have k2 := (HK11.out.up HU3.out).val (i := 2) rfl
        rw [show (true && vb) = vb from rfl]
        go_wp2_with fail
        refine (M7b.out _ HU3'.out).mono ?_
        rintro e w14 ⟨rfl, hU4⟩
        have HU4 := hid (HU3.out.trans hU4)
        clear c0 c1 c2 c3 c4 c5 k0 k1 k2 hU4
        go_wp2
        go_ret
        exact ⟨rfl, (HU1.out.trans HX11.out).trans HU4.out⟩
end Go.Proofs.YtkimojconidhlaaDoor
namespace Go.Proofs.YtkimojconidhlaaDoor.lawEpochSigned
open Go.Proofs.YtkimojconidhlaaDoor Go.ChangeShapes Go.WideShapes Go.ChangeAt Go.RowKit Go.Sp

set_option maxRecDepth 100000 in
theorem contract (H : Type) (enc : TypeId × Value → H) (W : World) (base : Nat) (args : Array Value) (ds gs : List (DataW H)) (before : List MemPlace)
    (hval : ∀ (j : Nat) t v, Tryd.f3.params[j]? = some t → args[j]? = some v → Value.okWide Tryd.prog W .any base t v)
    (hW : DataW.Whole enc Tryd.prog Tryd.f3.params.toList Rows.epochSignedSpec.vars false W args.toList ds gs before) (hL : laidMetH Tryd.prog Rows.epochSignedRow.laid W) :
    Calls Tryd.prog 3 args W fun e W' => ∃ v, e = .returned v ∧ Rows.epochSignedSpec.post enc Tryd.prog Tryd.f3 false true false false W args v W' := by
  have hT := tab_of_four hL
  have hS := tabS_of_four hL
  have hW' := hW
  obtain ⟨p, q, hA0, hV, rfl, hfz, hnd⟩ := hW
  have hA : DataW.TrodAll enc Tryd.prog W 0 (fun _ => true) true Tryd.f3.params.toList args.toList ds p := hA0
  rw [Tryd.params3] at hA hval
  obtain ⟨v0, vs0, d0, ds0, p0, q0, hargs, rfl, rfl, h0, r0⟩ := trodAll_cons hA
  obtain ⟨v1, vs1, d1, ds1, p1, q1, rfl, rfl, rfl, h1, r1⟩ := trodAll_cons r0
  obtain ⟨v2, vs2, d2, ds2, p2, q2, rfl, rfl, rfl, h2, r2⟩ := trodAll_cons r1
  obtain ⟨v3, vs3, d3, ds3, p3, q3, rfl, rfl, rfl, h3, r3⟩ := trodAll_cons r2
  obtain ⟨v4, vs4, d4, ds4, p4, q4, rfl, rfl, rfl, h4, r4⟩ := trodAll_cons r3
  obtain ⟨v5, vs5, d5, ds5, p5, q5, rfl, rfl, rfl, h5, r5⟩ := trodAll_cons r4
  obtain ⟨v6, vs6, d6, ds6, p6, q6, rfl, rfl, rfl, h6, r6⟩ := trodAll_cons r5
  obtain ⟨rfl, rfl, rfl⟩ := trodAll_nil r6
  obtain rfl : args = #[v0, v1, v2, v3, v4, v5, v6] := by cases args; simp_all
  obtain ⟨rfl, rfl⟩ := trodVars_none hV
  obtain ⟨P0, Q0, G0, A0, B0, C0, rfl, bP0, bQ0, bG0, bA0, bB0, bC0⟩ := open_bases (hval 0 25 v0 rfl rfl) h0
  obtain ⟨x1, rfl, bx1, by1⟩ := open_i64 (hval 1 3 v1 rfl rfl) h1
  obtain ⟨xs2, hs2, hn2, bs2⟩ := open_recs (hval 2 26 v2 rfl rfl) h2
  obtain ⟨sd3, ct3, rfl, hd3, bc3, cc3⟩ := open_draw (hval 3 30 v3 rfl rfl) h3
  obtain ⟨x4, rfl, bx4, by4⟩ := open_u8 (hval 4 5 v4 rfl rfl) h4
  obtain ⟨x5, rfl, bx5, by5⟩ := open_u8 (hval 5 5 v5 rfl rfl) h5
  obtain ⟨x6, rfl, bx6, by6⟩ := open_i64 (hval 6 3 v6 rfl rfl) h6
  refine (EpochSigned_walk P0 Q0 G0 A0 B0 C0 x1 sd3 ct3 v2 xs2 x4 x5 x6 W bP0.1 bQ0.2 hT hS hd3 hs2 hn2 bs2 (And.intro bx4 by4) (And.intro bx5 by5) (And.intro bx6 by6)).mono fun e W' ⟨he, hU⟩ => ?_
  exact ⟨_, he, law_shut Tryd.underlying4 (by kernel_rfl) rfl rfl laidOut (by kernel_rfl) hW' hU⟩

theorem laid_met (os : Os) : laidMet Tryd.prog Rows.epochSignedRow.laid ((World.laidAll Tryd.prog os laidFour).forCall (fun _ _ => 0) ⟨#[], #[.agg #[.int .i64 0, .int .i64 0, .int .i64 0, .int .i64 0, .int .i64 0, .int .i64 0], .int .i64 0, .slice none 0 0, drw zeroH 0, .int .u8 0, .int .u8 0, .int .i64 0], []⟩).memory :=
  laidMet_laidAll _ (by kernel_rfl) (by kernel_rfl)
theorem reads (os : Os) {H : Type} (enc : TypeId × Value → H) : ∃ places, DataW.whole enc Tryd.prog ((World.laidAll Tryd.prog os laidFour).forCall (fun _ _ => 0) ⟨#[], #[.agg #[.int .i64 0, .int .i64 0, .int .i64 0, .int .i64 0, .int .i64 0, .int .i64 0], .int .i64 0, .slice none 0 0, drw zeroH 0, .int .u8 0, .int .u8 0, .int .i64 0], []⟩).memory Tryd.f3.params.toList Rows.epochSignedSpec.vars false (#[.agg #[.int .i64 0, .int .i64 0, .int .i64 0, .int .i64 0, .int .i64 0, .int .i64 0], .int .i64 0, .slice none 0 0, drw zeroH 0, .int .u8 0, .int .u8 0, .int .i64 0] : Array Value).toList 8 = some ([.agg [.agg [.lit (.int .i64 0), .lit (.int .i64 0), .lit (.int .i64 0)], .lit (.int .i64 0), .lit (.int .i64 0), .lit (.int .i64 0)], .lit (.int .i64 0), .nil, .agg [.agg [.lit (.int .u8 0), .lit (.int .u8 0), .lit (.int .u8 0), .lit (.int .u8 0), .lit (.int .u8 0), .lit (.int .u8 0), .lit (.int .u8 0), .lit (.int .u8 0), .lit (.int .u8 0), .lit (.int .u8 0), .lit (.int .u8 0), .lit (.int .u8 0), .lit (.int .u8 0), .lit (.int .u8 0), .lit (.int .u8 0), .lit (.int .u8 0), .lit (.int .u8 0), .lit (.int .u8 0), .lit (.int .u8 0), .lit (.int .u8 0), .lit (.int .u8 0), .lit (.int .u8 0), .lit (.int .u8 0), .lit (.int .u8 0), .lit (.int .u8 0), .lit (.int .u8 0), .lit (.int .u8 0), .lit (.int .u8 0), .lit (.int .u8 0), .lit (.int .u8 0), .lit (.int .u8 0), .lit (.int .u8 0)], .lit (.int .i64 0)], .lit (.int .u8 0), .lit (.int .u8 0), .lit (.int .i64 0)], [], places) :=
  ⟨[], by kernel_rfl⟩

set_option maxRecDepth 100000 in
theorem lifted (os : Os) (started : os.Started) (H : Type) (enc : TypeId × Value → H) (F : Stop.Interp) :
    ReturnsInHanded {} Tryd.checked os 3 .any ((OpenSpec.ofChange Rows.epochSignedSpec).preRow enc Tryd.prog Tryd.f3 Rows.epochSignedRow.domain false Rows.epochSignedRow.laid) (((OpenSpec.ofChange Rows.epochSignedSpec).at F).post enc Tryd.prog Tryd.f3 false true false false) := by
  obtain ⟨places, hx⟩ := reads os enc
  refine returnsInHanded_of_row (C := Tryd.checked) (s := OpenSpec.ofChange Rows.epochSignedSpec) own started (by kernel_rfl) Tryd.func3
    (witness_row_at (enc := enc) (C := Tryd.checked) false (World.laidAll Tryd.prog os laidFour) #[.agg #[.int .i64 0, .int .i64 0, .int .i64 0, .int .i64 0, .int .i64 0, .int .i64 0], .int .i64 0, .slice none 0 0, drw zeroH 0, .int .u8 0, .int .u8 0, .int .i64 0] (World.laidAll_os _ _ _) (by kernel_rfl) (by kernel_rfl) (by kernel_rfl)
      (OpenSpec.preRow_of_cond 8 hx (by kernel_rfl) (fun k hk => by cases hk) (by kernel_rfl) (laid_met os))) ?_
  intro W base args ds gs before hval hW _ _ _ hL _ _
  exact contract H enc W base args ds gs before hval hW hL

theorem said : Rows.EpochSignedSaid :=
  OpenClaim.holds_of_cond 3 Tryd.f3 rfl rfl rfl rfl rfl rfl rfl ⟨rfl, rfl, rfl, rfl, rfl⟩ rfl rfl rfl rfl rfl (by kernel_rfl) Tryd.func3 (by kernel_rfl)
    (of_decide_eq_true (by kernel_rfl)) (by unfold Func.isWrapper; first | (rw [if_pos (by decide +kernel)]; kernel_rfl) | (rw [if_neg (by decide +kernel)]; exact ⟨rfl, rfl⟩))
    (fun os started H enc _ F => by rw [OpenClaim.pre_eq_preRow]; exact lifted os started H enc F)

theorem plain (f : FuncId) (fn : Func) (hf : Tryd.pinned.checked.prog.funcNamed "specie/specielaw30.EpochSigned" = some f) (hfn : Tryd.pinned.checked.prog.funcs[f]? = some fn) :
    false = Tryd.pinned.checked.prog.looks [] ∧ ∀ (j : Nat) t, fn.params[j]? = some t → Tryd.pinned.checked.prog.wantsStandIn t = false := by
  obtain rfl : f = 3 := Option.some.inj ((show Tryd.prog.funcNamed "specie/specielaw30.EpochSigned" = some 3 by kernel_rfl).symm.trans hf) |>.symm
  obtain rfl : fn = Tryd.f3 := (Option.some.inj (Tryd.func3.symm.trans hfn)).symm
  refine ⟨by kernel_rfl, fun j t ht => ?_⟩
  have hall : Tryd.f3.params.toList.all (fun t => !Tryd.prog.wantsStandIn t) = true := by kernel_rfl
  have := List.all_eq_true.1 hall t (by rw [← Array.mem_toList_iff.symm]; exact Array.mem_of_getElem? ht)
  exact (by simpa using this : Tryd.prog.wantsStandIn t = false)

/-- The card. -/
theorem card : Rows.EpochSignedCardSaid :=
  Claim7.holds_tied_plain_at .later [] _ _ _ _ said (fun _ h => by cases h) (by kernel_rfl) (fun _ h => by cases h) epochSigned_row_tie rfl ⟨rfl, rfl⟩ (by kernel_rfl) rfl plain (by kernel_rfl)
end Go.Proofs.YtkimojconidhlaaDoor.lawEpochSigned
