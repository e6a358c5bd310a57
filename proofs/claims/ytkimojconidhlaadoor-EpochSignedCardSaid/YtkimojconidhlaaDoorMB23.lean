/- Package signature: Verify. Package epoch: message, Verify. Package epoch: Verify. What an honest signer's answer fits. Package draw: plain laws of numbers, and of lists of them. -/
import Derived.Test.YtkimojconidhlaaDoorMB22
import Derived.Test.YtkimojconidhlaaDoorMB20
import Derived.Test.YtkimojconidhlaaDoorMB15
namespace Go.Proofs.YtkimojconidhlaaDoor
open Go.RowKit Go.Sp
set_option maxHeartbeats 4000000
set_option maxRecDepth 20000

def SigAt (w : World) (b : Nat) (x y : Int) : Prop := w.cell? ⟨b, 0, none⟩ = some (.int .i64 x) ∧ w.cell? ⟨b, 1, none⟩ = some (.int .i64 y)
theorem SigAt.up {w w' : World} {b : Nat} {x y : Int} (h : SigAt w b x y) (hU : Up w w') : SigAt w' b x y :=
  have hl := cell_lt h.1
  ⟨by rw [hU.cell hl]; exact h.1, by rw [hU.cell hl]; exact h.2⟩
theorem nums_two {w : World} {r : Nat} {x y : Int} {t : TypeId} (hr : w.heap.size = r) : SigAt (w.alloc (.cells #[.int .i64 x, .int .i64 y] t)) r x y := by
  have hb := alloc_at w (.cells #[.int .i64 x, .int .i64 y] t) r hr.symm
  exact ⟨by simp [World.cell?, hb], by simp [World.cell?, hb]⟩

def verS (P Q G y : Int) (m : List Int) (c s : Int) : Bool := decide (frgE P Q G y c s = 0) && (decide (m.length ≤ 16384) && decide (sigC P Q G (frgV P Q G y c s) y m = c))
theorem frgE_ok {P Q G y c s : Int} (h : frgE P Q G y c s = 0) : gvB P Q G = true ∧ elB P Q y = true ∧ exB Q c = true ∧ exB Q s = true := by
  unfold frgE errE at h
  by_cases h1 : gvB P Q G = true
  · rw [if_pos h1] at h
    by_cases h2 : (elB P Q y && (exB Q c && exB Q s)) = true
    · simp at h2
      exact ⟨h1, h2.1, h2.2.1, h2.2.2⟩
    · rw [if_neg h2] at h; cases h
  · rw [if_neg h1] at h; cases h
theorem frgE_sig {P Q G y c s : Int} {n : Nat} (h : frgE P Q G y c s = 0) : sigE P Q G (frgV P Q G y c s) y n = if n ≤ 16384 then 0 else 5 := by
  obtain ⟨h1, h2, _, _⟩ := frgE_ok h
  unfold sigE
  rw [if_pos (chkI_ok h1 (by simp [frgV_el h1 h2, h2]))]

theorem sigVerify_any (P Q G y c s : Int) (v : Value) (m : List Int) (w : World) (hP : -9223372036854775808 ≤ P) (hQ : Q ≤ 9223372036854775807) (hT : Tab w) (hS : TabS w) (hv : SeqAt .u8 w v m) (hm : ∀ x ∈ m, 0 ≤ x ∧ x ≤ 255) :
    Calls Tryd.prog 12 #[grp P Q G, .int .i64 y, v, .agg #[.int .i64 c, .int .i64 s]] w fun e w' => e = .returned (.bool (verS P Q G y m c s)) ∧ Up w w' := by
  have M1 := hid (fun w' (hU : Up w w') => sigForge_any P Q G y c s w' hP hQ (hT.up hU))
  have M2 := hid (fun w' (hU : Up w w') (r : Int) => sigChallenge_any P Q G r y v m w' hP hQ (hT.up hU) (hS.up hU) (hv.up hU) hm)
  have HE := hid (fun h : frgE P Q G y c s = 0 => frgE_sig (n := m.length) h)
  have HB : Hid (verS P Q G y m c s = (decide (frgE P Q G y c s = 0) && (decide (m.length ≤ 16384) && decide (sigC P Q G (frgV P Q G y c s) y m = c)))) := hid rfl
  generalize verS P Q G y m c s = T at *
  generalize frgV P Q G y c s = V at *
  generalize frgE P Q G y c s = E at *
  replace M2 := hid (fun w' hU => M2.out w' hU V)
  obtain ⟨va, vc, rfl, _, _⟩ := hv.shape
  clear hT hS hv hm
  obtain ⟨o, ho⟩ : ∃ o, w.heap.size = o := ⟨_, rfl⟩
  have HO := hid ho
  clear ho
  go_enter Tryd.func12, Tryd.ntmps12
  go_wp2_with fail
  refine (M1.out _ (((Up.refl w).alloc _).alloc _)).mono ?_
  rintro e w1 ⟨rfl, hU1⟩
  have HA1 := hid ((((nums_three (w := w) (t := 23) HO.out).up ((Up.refl _).alloc _)).up hU1))
  have HS1 := hid ((nums_two (r := o + 1) (t := 33) (x := c) (y := s) (by have := HO.out; simp; omega)).up hU1)
  have HU1 := hid ((((Up.refl w).alloc _).alloc _).trans hU1)
  rw [HO.out]
  clear hU1
  obtain ⟨c0, c1, c2⟩ := HA1.out
  obtain ⟨d0, d1⟩ := HS1.out
  by_cases hE : E = 0
  case neg =>
    have hE' : (E != 0) = true := by simpa using hE
    have hX : T = false := by rw [HB.out, show decide (E = 0) = false by simpa using hE]; rfl
    subst hX
    clear hE
    go_wp2
    go_ret
    exact ⟨rfl, HU1.out⟩
  subst hE
  have hE2 := HE.out rfl
  rw [hE2] at M2
  have HB2 : Hid (T = (decide (m.length ≤ 16384) && decide (sigC P Q G V y m = c))) := hid (by rw [HB.out]; rfl)
  clear HB HE hE2
  generalize sigC P Q G V y m = D at *
  rw [show orZ 0 V = V from rfl]
  go_wp2_with fail
  refine (M2.out _ HU1.out).mono ?_
  rintro e w2 ⟨rfl, hU2⟩
  have HS2 := hid (HS1.out.up hU2)
  have HU2 := hid (HU1.out.trans hU2)
  clear hU2 HS1 HU1 HA1 c0 c1 c2 d0 d1
  obtain ⟨d0, d1⟩ := HS2.out
  by_cases hl : m.length ≤ 16384
  case neg =>
    have hX : T = false := by rw [HB2.out, show decide (m.length ≤ 16384) = false by simpa using hl]; rfl
    subst hX
    rw [if_neg hl]
    clear hl
    go_wp2
    go_ret
    exact ⟨rfl, HU2.out⟩
  have hX : T = decide (D = c) := by rw [HB2.out, show decide (m.length ≤ 16384) = true by simpa using hl]; rfl
  subst hX
  rw [if_pos hl, show orZ 0 D = D from rfl]
  clear hl HB2
  go_wp2
  go_ret
  refine ⟨?_, HU2.out⟩
  exact congrArg (fun b => Ending.returned (.bool b)) (by rw [Bool.eq_iff_iff]; simp)
end Go.Proofs.YtkimojconidhlaaDoor
namespace Go.Proofs.YtkimojconidhlaaDoor
open Go.RowKit Go.Sp
set_option maxHeartbeats 4000000
set_option maxRecDepth 20000

/-- The length and the room of a slice. -/
def CapOk (v : Value) (n : Nat) : Prop := ∃ a cap, v = .slice a n cap ∧ n ≤ cap ∧ cap ≤ 9223372036854775807 ∧ (a = none → cap = 0)
theorem ownQ_cap {e : TypeId} {w : World} {base : Nat} {v : Value} {qs : List Quad} (h : OwnQ e w base v qs) : CapOk v qs.length := by
  rcases h.2 with ⟨hv, hn⟩ | ⟨g, cap, cur, rfl, hb, hg, hn, hm, _⟩
  · exact ⟨none, 0, by rw [hv, hn], by omega, by omega, fun _ => rfl⟩
  · exact ⟨_, cap, rfl, hn, by unfold maxLen at hm; omega, fun h => by cases h⟩
theorem IntItems.itm {w : World} {v : Value} {xs : List Int} (h : IntItems w v xs) (hc : CapOk v xs.length) (hl : xs.length ≤ 1000) : ItmAt w 1 3 0 nilS v (encInts xs) := by
  obtain ⟨a, cap, rfl, h1, h2, h3⟩ := hc
  refine itm_list ⟨a, cap, by rw [List.length_map], by rw [List.length_map]; exact h1, h2, h3, fun i hi => ?_⟩ (by rw [List.length_map]; exact hl)
  rw [List.length_map] at hi
  obtain ⟨b, rfl, hcell⟩ := ints_items h (Up.refl w) hi
  refine ⟨b, 0, 1, xs.getD i 0, nilS, nilS, rfl, by rw [Nat.zero_add]; exact hcell, ?_⟩
  rw [show (xs.map encInt).getD i [] = encInt (xs.getD i 0) by simp [hi]]
  exact itm_int w _ 0
theorem IntItems.grown {w w' : World} {v : Value} {xs : List Int} {row : Option Nat} (h : IntItems w v xs) (hg : w.grownBy w' row) (hne : xs ≠ [] → ∀ b n c, v = .slice (some ⟨b, 0, none⟩) n c → some b ≠ row) : IntItems w' v xs := by
  obtain ⟨a, cap, rfl, h1⟩ := h
  refine ⟨a, cap, rfl, fun hx => ?_⟩
  obtain ⟨b, rfl, hc⟩ := h1 hx
  have hb := hne hx b _ _ rfl
  refine ⟨b, rfl, fun i hi => ?_⟩
  obtain ⟨c0, c1, c2, c3⟩ := hc i hi
  have hk := hg.block b (cell_in c0) hb
  exact ⟨by rw [World.cell?_of_block (w := w) hk]; exact c0, by rw [World.cell?_of_block (w := w) hk]; exact c1, by rw [World.cell?_of_block (w := w) hk]; exact c2, by rw [World.cell?_of_block (w := w) hk]; exact c3⟩
/-- A list's items are those of integers do not lie in a list of lists. -/
theorem ints_apart {e : TypeId} {w : World} {base : Nat} {u v : Value} {qs : List Quad} {xs : List Int} (h : IntItems w v xs) (ho : OwnQ e w base u qs) (hk : ∀ q ∈ qs, q.k = 3) (hq0 : qs ≠ []) (hx : xs ≠ []) (b n c : Nat) (hv : v = .slice (some ⟨b, 0, none⟩) n c) : some b ≠ u.ownBlock := by
  intro he
  obtain ⟨a, cap, hv2, h1⟩ := h
  obtain ⟨b', ha, hc⟩ := h1 hx
  subst hv
  injection hv2 with e1 e2 e3
  rw [← e1] at ha
  injection ha with ha
  injection ha with ha
  subst ha
  have h0 := (hc 0 (by cases xs with | nil => exact absurd rfl hx | cons x xs => simp)).1
  have hh := ho
  rcases ho.2 with ⟨rfl, _⟩ | ⟨g, cap', cur, rfl, _, hg, _⟩
  · simp [Value.ownBlock] at he
  · simp [Value.ownBlock] at he
    subst he
    cases qs with
    | nil => exact absurd rfl hq0
    | cons q qs =>
      have hq := World.ownsRow.cellAt hh 0 (by simp)
      rw [show 0 * 4 = 0 from rfl, hq] at h0
      simp [Quad.cells] at h0
      have := hk q (by simp)
      omega
/-- Items that are the records of a list. -/
def LstAt (w : World) (qs : List Quad) (l : List Rec) : Prop := qs.length = l.length ∧ ∀ j (h : j < qs.length), ∃ v, qs[j] = ⟨3, 0, nilS, v⟩ ∧ IntItems w v (l.getD j rec0).nums ∧ CapOk v 11
theorem LstAt.up {w w' : World} {qs : List Quad} {l : List Rec} (h : LstAt w qs l) (hU : Up w w') : LstAt w' qs l := by
  refine ⟨h.1, fun j hj => ?_⟩
  obtain ⟨v, h1, h2, h3⟩ := h.2 j hj
  exact ⟨v, h1, h2.up hU, h3⟩
theorem LstAt.three {w : World} {qs : List Quad} {l : List Rec} (h : LstAt w qs l) : ∀ q ∈ qs, q.k = 3 := by
  intro q hq
  obtain ⟨j, hj, rfl⟩ := List.getElem_of_mem hq
  obtain ⟨v, h1, _⟩ := h.2 j hj
  rw [h1]
theorem LstAt.grown {e : TypeId} {w w' : World} {base : Nat} {u : Value} {qs : List Quad} {l : List Rec} (h : LstAt w qs l) (ho : OwnQ e w base u qs) (hg : w.grownBy w' u.ownBlock) : LstAt w' qs l := by
  refine ⟨h.1, fun j hj => ?_⟩
  obtain ⟨v, h1, h2, h3⟩ := h.2 j hj
  exact ⟨v, h1, h2.grown hg (fun hx b n c hv => ints_apart h2 ho h.three (by rintro rfl; simp at hj) hx b n c hv), h3⟩
theorem ownQ_lt {e : TypeId} {w : World} {base b : Nat} {u : Value} {qs : List Quad} (ho : OwnQ e w base u qs) (hb : u.ownBlock = some b) : b < w.heap.size := by
  rcases ho.2 with ⟨rfl, _⟩ | ⟨g, cap', cur, rfl, _, hg, _⟩
  · cases hb
  · simp [Value.ownBlock] at hb
    subst hb
    exact (Array.getElem?_eq_some_iff.1 hg).1
theorem ownQ_ge {e : TypeId} {w : World} {base : Nat} {u : Value} {qs : List Quad} (ho : OwnQ e w base u qs) {b n c : Nat} (hv : u = .slice (some ⟨b, 0, none⟩) n c) : base ≤ b := ho.block b (by rw [hv]; rfl)
/-- A list that was made behind another does not lie in it. -/
theorem newer {e e' : TypeId} {w0 w : World} {base b1 : Nat} {u v : Value} {qs qs' : List Quad} (ho : OwnQ e w0 base u qs) (hn : OwnQ e' w b1 v qs') (hb : w0.heap.size ≤ b1) {b n c : Nat} (hv : v = .slice (some ⟨b, 0, none⟩) n c) : some b ≠ u.ownBlock := by
  intro he
  have h1 := ownQ_lt ho he.symm
  have h2 := ownQ_ge hn hv
  omega
theorem LstAt.app {w : World} {qs : List Quad} {l : List Rec} {i : Nat} {v : Value} (h : LstAt w qs (l.take i)) (hi : i < l.length) (hv : IntItems w v (l.getD i rec0).nums) (hc : CapOk v 11) : LstAt w (qs ++ [⟨3, 0, nilS, v⟩]) (l.take (i + 1)) := by
  have hq : qs.length = i := by rw [h.1]; simp; omega
  refine ⟨by rw [List.length_append, hq]; simp; omega, fun j hj => ?_⟩
  rw [List.length_append, List.length_singleton] at hj
  by_cases hj2 : j < qs.length
  · obtain ⟨u, h1, h2, h3⟩ := h.2 j hj2
    refine ⟨u, by rw [List.getElem_append_left hj2]; exact h1, ?_, h3⟩
    rw [show (l.take (i + 1)).getD j rec0 = (l.take i).getD j rec0 by (have a1 : j < i := by omega); (have a2 : j < i + 1 := by omega); simp only [List.getD_eq_getElem?_getD, List.getElem?_take, if_pos a1, if_pos a2]]
    exact h2
  · obtain rfl : j = i := by omega
    refine ⟨v, by rw [List.getElem_append_right (by omega)]; simp, ?_, hc⟩
    rw [show (l.take (j + 1)).getD j rec0 = l.getD j rec0 by simp [List.getD]]
    exact hv
theorem LstAt.quad {w : World} {qs : List Quad} {l : List Rec} (h : LstAt w qs l) : QuadAt w 1 qs (l.map fun r => encInts r.nums) := by
  refine ⟨by rw [List.length_map]; exact h.1, fun j hj => ?_⟩
  obtain ⟨v, h1, h2, h3⟩ := h.2 j hj
  have hjl : j < l.length := by rw [← h.1]; exact hj
  rw [h1, show (l.map fun r => encInts r.nums).getD j [] = encInts (l.getD j rec0).nums by simp [hjl]]
  exact h2.itm h3 (by simp [Rec.nums])
/-- The message of a list of records. -/
def msgR (l : List Rec) : List Int := encList (l.map fun r => encInts r.nums)
theorem msgR_byt (l : List Rec) : ∀ y ∈ msgR l, 0 ≤ y ∧ y ≤ 255 := by
  refine encList_byt fun e he => ?_
  obtain ⟨r, _, rfl⟩ := List.mem_map.1 he
  exact encInts_byt _
theorem msgR_length (l : List Rec) : (msgR l).length = l.length * 104 + 5 := by
  rw [msgR, encList_length]
  congr 1
  induction l with
  | nil => rfl
  | cons x l ih => rw [List.map_cons, List.flatten_cons, List.length_append, ih, encInts_length, List.length_cons]; simp [Rec.nums]; omega
theorem lst_itm {w : World} {base : Nat} {v : Value} {qs : List Quad} {l : List Rec} (ho : OwnQ 53 w base v qs) (h : LstAt w qs l) (hl : l.length ≤ 1000) : ItmAt w 2 3 0 nilS v (msgR l) :=
  itm_list (ho.row h.quad) (by rw [List.length_map]; exact hl)
theorem nilS_own : (nilS : Value).ownBlock = none := rfl

/-- What the loop's region reads. -/
def MsgS (L g i : Nat) (ad : Option Addr) (cp : Nat) (cs : Array Value) (w0 w : World) : Prop := Blk w L 53 #[.int .i64 3, .int .i64 0, nilS, .slice ad i cp] ∧ Blk w g 46 cs ∧ Up w0 w
theorem MsgS.up {L g i : Nat} {ad : Option Addr} {cp : Nat} {cs : Array Value} {w0 w w' : World} (h : MsgS L g i ad cp cs w0 w) (hU : Up w w') : MsgS L g i ad cp cs w0 w' := ⟨h.1.up hU, h.2.1.up hU, h.2.2.trans hU⟩
/-- What message returns. -/
def MsgOut (m : List Int) (w : World) (e : Ending) (w' : World) : Prop :=
  ∃ v, e = .returned (.tuple #[v, .bool (decide (m.length ≤ 16384))]) ∧ SeqAt .u8 w' v (if m.length ≤ 16384 then m else []) ∧ Up w w'
theorem LstAt.set {w : World} {o : Nat} {t : TypeId} {cs : Array Value} {qs : List Quad} {l : List Rec} (h : LstAt w qs l) (hb : Blk w o t cs) (h0 : cs[0]? = some (.int .i64 3)) (x : Value) : LstAt (w.setCell ⟨o, 3, none⟩ x) qs l := by
  refine ⟨h.1, fun j hj => ?_⟩
  obtain ⟨v, h1, ⟨a, cap, rfl, h2⟩, h3⟩ := h.2 j hj
  refine ⟨_, h1, ⟨a, cap, rfl, fun hx => ?_⟩, h3⟩
  obtain ⟨b, rfl, hc⟩ := h2 hx
  have hne : b ≠ o := by
    rintro rfl
    have k0 := (hc 0 (by simp [Rec.nums])).1
    have k1 := hb.val h0
    rw [show 0 * 4 = 0 from rfl, k1] at k0
    simp at k0
  have hk : (w.setCell ⟨o, 3, none⟩ x).heap[b]? = w.heap[b]? := Below.heap_setCell w ⟨o, 3, none⟩ x b hne
  refine ⟨b, rfl, fun i hi => ?_⟩
  obtain ⟨c0, c1, c2, c3⟩ := hc i hi
  exact ⟨by rw [World.cell?_of_block (w := w) hk]; exact c0, by rw [World.cell?_of_block (w := w) hk]; exact c1, by rw [World.cell?_of_block (w := w) hk]; exact c2, by rw [World.cell?_of_block (w := w) hk]; exact c3⟩
theorem ownQ_apart {e t : TypeId} {w : World} {base g : Nat} {v : Value} {qs : List Quad} {cs : Array Value} (h : OwnQ e w base v qs) (hb : Blk w g t cs) (hne : t ≠ e) : some g ≠ v.ownBlock := by
  rcases h.2 with ⟨rfl, _⟩ | ⟨g', cap, cur, rfl, _, hg, _⟩
  · simp [Value.ownBlock]
  · intro he
    simp [Value.ownBlock] at he
    subst he
    have hb' : w.heap[g]? = some (.cells cs t (0, 0)) := hb
    rw [hb'] at hg
    simp only [Option.some.injEq, Obj.cells.injEq] at hg
    exact hne hg.2.1

theorem message_any (v : Value) (l : List Rec) (w : World) (hv : RecsAt w v l) (hl : l.length ≤ 1000) :
    Calls Tryd.prog 20 #[v] w (MsgOut (msgR l) w) := by
  have HV := hid hv
  have HLl := hid hl
  have N1 := hid (fun (x : Rec) w' => eItem_ok x.kd x.nr x.co x.iv x.ni x.ka x.kb x.kc x.st x.un x.ac w')
  obtain ⟨_, a, cpv, rfl, _⟩ := hv
  obtain ⟨m, hm⟩ : ∃ m, l.length = m := ⟨_, rfl⟩
  have HM := hid hm
  rw [hm] at HV hl ⊢
  obtain ⟨o, ho⟩ : ∃ o, w.heap.size = o := ⟨_, rfl⟩
  have HO := hid ho
  obtain ⟨B, hB⟩ : ∃ B, o + 1 = B := ⟨_, rfl⟩
  have HBB := hid hB
  clear hm ho hB
  go_enter Tryd.func20, Tryd.ntmps20
  go_wp2_with fail
  have HL0 : Hid (Blk (w.alloc (.cells #[.int .i64 3, .int .i64 0, nilS, nilS] 53)) o 53 #[.int .i64 3, .int .i64 0, nilS, nilS]) := hid (Blk.new HO.out rfl)
  have HU0 : Hid (Up w (w.alloc (.cells #[.int .i64 3, .int .i64 0, nilS, nilS] 53))) := hid ((Up.refl w).alloc _)
  rw [HO.out]
  rw [show w.alloc (.cells #[.int .i64 3, .int .i64 0, .slice none 0 0, .slice none 0 0] 53) = w.alloc (.cells #[.int .i64 3, .int .i64 0, nilS, nilS] 53) from rfl]
  generalize w.alloc (.cells #[.int .i64 3, .int .i64 0, nilS, nilS] 53) = w0 at *
  go_loopw [12] (fun vi wr => ∃ (i : Nat) (ad : Option Addr) (cp : Nat) (qs : List Quad), i ≤ m ∧ vi = .int .i64 i ∧ Hid (Blk wr o 53 #[.int .i64 3, .int .i64 0, nilS, .slice ad i cp]) ∧ Hid (qs.length = i) ∧ Hid (OwnQ 53 wr B (.slice ad i cp) qs) ∧ Hid (LstAt wr qs (l.take i)) ∧ Hid (Up w wr)) (fun vi _ => m - (intOf vi).toNat)
  case atStart => exact ⟨0, none, 0, [], by omega, rfl, HL0, hid rfl, hid ownQ_none, hid ⟨rfl, fun j hj => by simp at hj⟩, HU0⟩
  case round =>
    clear HL0 HU0
    obtain ⟨i, ad, cp, qs, hi, rfl, HL, HLn, HQ, HLs, HU⟩ := hrel
    have lL : o < wr.heap.size := HL.out.lt
    have hlo2 : o < B := by have := HBB.out; omega
    have hoB : B ≤ o + 1 := by have := HBB.out; omega
    have hwo : w.heap.size ≤ o := by have := HO.out; omega
    by_cases hlt : i < m
    · have hlx : i < l.length := by rw [HM.out]; exact hlt
      obtain ⟨g, off, rfl, hx2⟩ := recs_cell HV.out HU.out hlx
      have M1 := hid (fun w' => N1.out (l.getD i rec0) w')
      have HAp := hid (fun (w' : World) (qs' : List Quad) (v' : Value) (h : LstAt w' qs' (l.take i)) (hv : IntItems w' v' (l.getD i rec0).nums) (hc : CapOk v' 11) => h.app hlx hv hc)
      clear hlx
      generalize l.getD i rec0 = x at *
      obtain ⟨q0, q1, q2, q3, q4, q5, q6, q7, q8, q9, q10⟩ := hx2
      obtain ⟨kd, nr, co, iv, ni, ka, kb, kc, st, un, ac⟩ := x
      dsimp only at q0 q1 q2 q3 q4 q5 q6 q7 q8 q9 q10 M1
      have hnums : (⟨kd, nr, co, iv, ni, ka, kb, kc, st, un, ac⟩ : Rec).nums = [kd, nr, co, iv, ni, ka, kb, kc, st, un, ac] := rfl
      rw [hnums] at HAp
      have hx11 : [kd, nr, co, iv, ni, ka, kb, kc, st, un, ac].length = 11 := rfl
      generalize [kd, nr, co, iv, ni, ka, kb, kc, st, un, ac] = xs at *
      unfold epo epoA at M1
      have hgl : g < wr.heap.size := cell_lt q0
      obtain ⟨gx, hgx⟩ : ∃ gx, wr.heap.size = gx := ⟨_, rfl⟩
      obtain ⟨w1, hw1⟩ : ∃ w1, wr.alloc (.cells #[.int .i64 kd, .int .i64 nr, .int .i64 co, .int .i64 iv, .int .i64 ni, .int .i64 ka, .int .i64 kb, .int .i64 kc, .int .i64 st, .int .i64 un, .int .i64 ac] 46) = w1 := ⟨_, rfl⟩
      have hup1 : Up wr w1 := by rw [← hw1]; exact (Up.refl wr).alloc _
      have HB : Hid (MsgS o gx i ad cp #[.int .i64 kd, .int .i64 nr, .int .i64 co, .int .i64 iv, .int .i64 ni, .int .i64 ka, .int .i64 kb, .int .i64 kc, .int .i64 st, .int .i64 un, .int .i64 ac] w w1) := hid ⟨HL.out.up hup1, by rw [← hw1]; exact Blk.new hgx rfl, HU.out.trans hup1⟩
      have HQ := hid (HQ.out.up hup1)
      have HLs := hid (HLs.out.up hup1)
      have HW1 := hid hw1
      have HGx := hid hgx
      clear hup1 hw1 hgx
      go_wp2_with fail
      try rw [HGx.out]
      rw [HW1.out]
      clear HW1 HGx q0 q1 q2 q3 q4 q5 q6 q7 q8 q9 q10 hgl HU HL
      refine region_E (MsgS o gx i ad cp #[.int .i64 kd, .int .i64 nr, .int .i64 co, .int .i64 iv, .int .i64 ni, .int .i64 ka, .int .i64 kb, .int .i64 kc, .int .i64 st, .int .i64 un, .int .i64 ac] w) 7 (by kernel_rfl) (HB.out.up (Up.refl _).drew) fun hS => ?_
      have hQ0 := HQ.out.up (Up.refl w1).drew
      have hL0 := HLs.out.up (Up.refl w1).drew
      generalize w1.drew = u0 at *
      refine anyE_take (i := 0) (v := ?_) 16 rfl rfl (by kernel_rfl) (by kernel_rfl) (by decide) (fun _ _ _ h => h) (by kernel_rfl) (by kernel_rfl) (.inl ⟨by rfl, fun u hu => ?_⟩) hS ?_
      rotate_left
      · (go_simp; first | done | with_reducible rfl)
      try simp only [Act.put, List.setIfInBounds_toArray, List.set_cons_zero, List.set_cons_succ]
      refine anyE_take (i := 1) (v := ?_) 17 rfl rfl (by kernel_rfl) (by kernel_rfl) (by decide) (fun _ _ _ h => h) (by kernel_rfl) (by kernel_rfl) (.inl ⟨by rfl, fun u hu => ?_⟩) hS ?_
      rotate_left
      · (obtain ⟨u1, u2, u3⟩ := hu; have p3 := u1.val (i := 3) rfl; have t0 := u2.val (i := 0) rfl; have t1 := u2.val (i := 1) rfl; have t2 := u2.val (i := 2) rfl; have t3 := u2.val (i := 3) rfl; have t4 := u2.val (i := 4) rfl; have t5 := u2.val (i := 5) rfl; have t6 := u2.val (i := 6) rfl; have t7 := u2.val (i := 7) rfl; have t8 := u2.val (i := 8) rfl; have t9 := u2.val (i := 9) rfl; have t10 := u2.val (i := 10) rfl; go_simp; first | done | with_reducible rfl)
      try simp only [Act.put, List.setIfInBounds_toArray, List.set_cons_zero, List.set_cons_succ]
      refine anyE_take (i := 2) (v := ?_) 18 rfl rfl (by kernel_rfl) (by kernel_rfl) (by decide) (fun _ _ _ h => h) (by kernel_rfl) (by kernel_rfl) (.inl ⟨by rfl, fun u hu => ?_⟩) hS ?_
      rotate_left
      · (obtain ⟨u1, u2, u3⟩ := hu; have p3 := u1.val (i := 3) rfl; have t0 := u2.val (i := 0) rfl; have t1 := u2.val (i := 1) rfl; have t2 := u2.val (i := 2) rfl; have t3 := u2.val (i := 3) rfl; have t4 := u2.val (i := 4) rfl; have t5 := u2.val (i := 5) rfl; have t6 := u2.val (i := 6) rfl; have t7 := u2.val (i := 7) rfl; have t8 := u2.val (i := 8) rfl; have t9 := u2.val (i := 9) rfl; have t10 := u2.val (i := 10) rfl; go_simp; first | done | with_reducible rfl)
      try simp only [Act.put, List.setIfInBounds_toArray, List.set_cons_zero, List.set_cons_succ]
      refine anyE_oneG (i := 3) rfl (by kernel_rfl) (by rfl) (fun K hK => ?_)
      go_simp
      refine (M1.out u0).mono ?_
      rintro e u1 ⟨l1, rfl, ⟨base1, hq1, hb1⟩, hup⟩
      try dsimp only
      have hS1 := MsgS.up hS hup
      have hQ1 := hQ0.up hup
      have hL1 := hL0.up hup
      have hnew := fun b n c hv => newer (b := b) (n := n) (c := c) hQ0 hq1 hb1 hv
      have hI1 := OwnQ.ints hq1
      have hC1 := ownQ_cap hq1
      rw [List.length_map, hx11] at hC1
      refine hK.out _ _ (.inr hS1) ?_
      clear hK hS hup hQ0 hL0
      try simp only [Act.put, List.setIfInBounds_toArray, List.set_cons_zero, List.set_cons_succ]
      refine anyE_oneG (i := 4) rfl (by kernel_rfl) (by rfl) (fun K hK => ?_)
      obtain ⟨la, lc, hle⟩ := hq1.shape
      rw [List.length_map, hx11] at hle
      subst hle
      go_simp
      have hup2 := (Up.refl u1).alloc (.cells #[.int .i64 3, .int .i64 0, nilS, .slice la 11 lc] 53)
      have hS2 := MsgS.up hS1 hup2
      refine hK.out _ _ (.inr hS2) ?_
      clear hK
      try simp only [Act.put, List.setIfInBounds_toArray, List.set_cons_zero, List.set_cons_succ]
      have hQ2 := hQ1.up hup2
      have hL2 := hL1.up hup2
      have hI2 := hI1.up hup2
      have hs2 : u1.heap.size ≤ (u1.alloc (.cells #[.int .i64 3, .int .i64 0, nilS, .slice la 11 lc] 53)).heap.size := hup2.size
      have hBu : B ≤ (u1.alloc (.cells #[.int .i64 3, .int .i64 0, nilS, .slice la 11 lc] 53)).heap.size := by have := hS1.1.lt; omega
      refine anyE_oneG (i := 5) rfl (by kernel_rfl) (by rfl) (fun K hK => ?_)
      refine op_appQ infoItm rfl Tryd.underlying51 (by omega) _ _ rfl B rfl hQ2 u1.heap.size 1 (news := [⟨3, 0, nilS, .slice la 11 lc⟩]) rfl (fun j hj => by (obtain rfl : j = 0 := (by simp at hj; omega)); exact itm_new rfl) (fun j hj => by (obtain rfl : j = 0 := (by simp at hj; omega)); exact ⟨rfl, rfl⟩) (by have := HLn.out; simp only [List.length_singleton]; omega) hBu ?_
      intro v5 w5 hO5 hg5
      have hB5 := hQ2.below hg5 hBu
      have hS5 : MsgS o gx i ad cp #[.int .i64 kd, .int .i64 nr, .int .i64 co, .int .i64 iv, .int .i64 ni, .int .i64 ka, .int .i64 kb, .int .i64 kc, .int .i64 st, .int .i64 un, .int .i64 ac] w w5 := ⟨hS2.1.below hB5 (by omega), hS2.2.1.grown hg5 (ownQ_apart hQ2 hS2.2.1 (by decide)), up_below hS2.2.2 hB5 (by omega)⟩
      have hL5 := hL2.grown hQ2 hg5
      have hI5 := hI2.grown hg5 (fun _ b n c hv => hnew b n c hv)
      have hA5 := HAp.out w5 _ _ hL5 hI5 hC1
      obtain ⟨a5, c5, rfl⟩ := hO5.shape
      rw [List.length_append, HLn.out, List.length_singleton] at hO5 ⊢
      change K (Act.put _ (some 21) _) _
      refine hK.out _ _ (.inr hS5) ?_
      clear hK
      try simp only [Act.put, List.setIfInBounds_toArray, List.set_cons_zero, List.set_cons_succ]
      refine anyE_take (i := 6) (v := ?_) 22 rfl rfl (by kernel_rfl) (by kernel_rfl) (by decide) (fun _ _ _ h => h) (by kernel_rfl) (by kernel_rfl) (.inl ⟨by rfl, fun u hu => ?_⟩) hS5 ?_
      rotate_left
      · (go_simp; first | done | with_reducible rfl)
      try simp only [Act.put, List.setIfInBounds_toArray, List.set_cons_zero, List.set_cons_succ]
      have k3 := hS5.1.val (i := 3) rfl
      have y3 := hS5.1.thawed 3
      refine anyE_oneG (i := 7) rfl (by kernel_rfl) (by rfl) (fun K hK => ?_)
      go_simp
      refine hK.out _ _ (.inl rfl) (anyE_done (by kernel_rfl) ?_ _)
      clear hK
      have HL6 : Hid (Blk (w5.setCell ⟨o, 3, none⟩ (.slice a5 (i + 1) c5)) o 53 #[.int .i64 3, .int .i64 0, nilS, .slice a5 (i + 1) c5]) := hid (hS5.1.wrote 3 _)
      have HQ6 := hid (hO5.set (a := ⟨o, 3, none⟩) (show o < B by omega) (.slice a5 (i + 1) c5))
      have HLs6 := hid (LstAt.set hA5 hS5.1 rfl (.slice a5 (i + 1) c5))
      have HU6 := hid (hS5.2.2.setCell (a := ⟨o, 3, none⟩) (show w.heap.size ≤ o by omega) (.slice a5 (i + 1) c5))
      have HLn6 : Hid ((qs ++ [(⟨3, 0, nilS, .slice la 11 lc⟩ : Quad)]).length = i + 1) := hid (by rw [List.length_append, HLn.out]; rfl)
      clear hS1 hS2 hS5 k3 y3 hQ1 hQ2 hL1 hL2 hL5 hI1 hI2 hI5 hA5 hO5 hg5 hB5 hnew hC1 hq1 hs2 hBu HB HQ HLs M1 HAp
      generalize w5.setCell ⟨o, 3, none⟩ (.slice a5 (i + 1) c5) = w6 at *
      go_wp2_with fail
      go_roundw
      case rel => exact ⟨i + 1, a5, c5, _, by omega, by go_num, HL6, HLn6, HQ6, HLs6, HU6⟩
      case measure => simp [intOf]; omega
    · obtain rfl : i = m := by omega
      have HE := hid (fun (w' : World) (hU : Up wr w') => Encode_ok (d := 2) (lst_itm (HQ.out.up hU) (by have := HLs.out.up hU; rw [List.take_of_length_le (by rw [HM.out]; omega)] at this; exact this) (by rw [HM.out]; exact hl)) (by omega))
      have k0 := HL.out.val (i := 0) rfl
      have k1 := HL.out.val (i := 1) rfl
      have k2 := HL.out.val (i := 2) rfl
      have k3 := HL.out.val (i := 3) rfl
      clear HQ HLs HLn N1
      go_wp2_with fail
      refine (HE.out _ (Up.refl _)).mono ?_
      rintro e w2 ⟨v2, rfl, hO2, hU2⟩
      have HU2 := hid (HU.out.trans hU2)
      have HO2 := hid hO2
      clear hU2 k0 k1 k2 k3 HE HL HU
      by_cases hm : (msgR l).length ≤ 16384
      · rw [if_pos hm] at HO2 ⊢
        have hd : decide ((msgR l).length ≤ 16384) = true := by simpa using hm
        have HM5 := hid hm
        have HD5 := hid hd
        clear hm hd hO2
        go_wp2
        go_ret2
        exact ⟨v2, by rw [HD5.out]; rfl, by rw [if_pos HM5.out]; exact HO2.out.seq, HU2.out⟩
      · rw [if_neg hm] at HO2 ⊢
        have hd : decide ((msgR l).length ≤ 16384) = false := by simpa using hm
        have HM5 := hid hm
        have HD5 := hid hd
        clear hm hd hO2
        go_wp2
        go_ret2
        exact ⟨v2, by rw [HD5.out]; rfl, by rw [if_neg HM5.out]; exact HO2.out.seq, HU2.out⟩
end Go.Proofs.YtkimojconidhlaaDoor
namespace Go.Proofs.YtkimojconidhlaaDoor
open Go.RowKit Go.Sp
set_option maxHeartbeats 4000000
set_option maxRecDepth 20000

/-- Is a list signed by a key? -/
def vfyB (P Q G A B C y : Int) (l : List Rec) (c s : Int) : Bool := bvB P Q G A B C && (allR P Q G A B C l && (!twB l && verS P Q G y (msgR l) c s))
theorem verS_long {P Q G y c s : Int} {m : List Int} (h : ¬ m.length ≤ 16384) : verS P Q G y m c s = false := by
  unfold verS
  rw [show decide (m.length ≤ 16384) = false by simpa using h]
  simp
theorem eVerify_any (P Q G A B C y c s : Int) (v : Value) (l : List Rec) (w : World) (hP : -9223372036854775808 ≤ P) (hQ : Q ≤ 9223372036854775807) (hT : Tab w) (hS : TabS w) (hv : RecsAt w v l) (hl : l.length ≤ 1000) (hI : ∀ r ∈ l, I64 r.kd ∧ I64 r.nr ∧ I64 r.co) :
    Calls Tryd.prog 7 #[bas P Q G A B C, .int .i64 y, .agg #[v, .int .i64 c, .int .i64 s]] w fun e w' => e = .returned (.bool (vfyB P Q G A B C y l c s)) ∧ Up w w' := by
  have M1 := hid (fun w' (hU : Up w w') => bValid_any P Q G A B C w' hP hQ (hT.up hU))
  have M2 := hid (fun w' (hU : Up w w') => evalid_any P Q G A B C v l w' hP hQ (hT.up hU) (hv.up hU))
  have M3 := hid (fun w' (hU : Up w w') => twice_any v l w' (hv.up hU) hl hI)
  have M4 := hid (fun w' (hU : Up w w') => message_any v l w' (hv.up hU) hl)
  have M5 := hid (fun u w' (hU : Up w w') (hu : SeqAt .u8 w' u (msgR l)) => sigVerify_any P Q G y c s u (msgR l) w' hP hQ (hT.up hU) (hS.up hU) hu (msgR_byt l))
  have HL := hid (fun h => verS_long (P := P) (Q := Q) (G := G) (y := y) (c := c) (s := s) (m := msgR l) h)
  obtain ⟨T, hT0⟩ : ∃ T, vfyB P Q G A B C y l c s = T := ⟨_, rfl⟩
  have HB0 := hid hT0.symm
  rw [hT0]
  unfold vfyB at HB0
  generalize bvB P Q G A B C = b1 at *
  generalize allR P Q G A B C l = b2 at *
  generalize twB l = b3 at *
  generalize verS P Q G y (msgR l) c s = b4 at *
  generalize msgR l = ms at *
  obtain ⟨_, a, cp, rfl, _⟩ := hv
  obtain ⟨m, hm⟩ : ∃ m, l.length = m := ⟨_, rfl⟩
  rw [hm] at M2 M3 M4 ⊢
  obtain ⟨o, ho⟩ : ∃ o, w.heap.size = o := ⟨_, rfl⟩
  have HO := hid ho
  obtain ⟨o1, ho1⟩ : ∃ o1, o + 1 = o1 := ⟨_, rfl⟩
  have HO1 := hid ho1
  clear hT hS hI hm ho ho1 hT0
  go_enter Tryd.func7, Tryd.ntmps7
  go_wp2_with fail
  refine (M1.out _ (((Up.refl w).alloc _).alloc _)).mono ?_
  rintro e w1 ⟨rfl, hU1⟩
  have HA1 := hid (((nums_six (w := w) (t := 25) HO.out).up ((Up.refl _).alloc _)).up hU1)
  have HK1 := hid (((Blk.new (g := o1) (t := 35) (cs := #[.slice a m cp, .int .i64 c, .int .i64 s]) (by have := HO.out; have := HO1.out; simp; omega) rfl)).up hU1)
  have HU1 := hid ((((Up.refl w).alloc _).alloc _).trans hU1)
  clear hU1
  rw [HO.out, HO1.out]
  obtain ⟨⟨c0, c1, c2⟩, c3, c4, c5⟩ := HA1.out
  have k0 := HK1.out.val (i := 0) rfl
  have k1 := HK1.out.val (i := 1) rfl
  have k2 := HK1.out.val (i := 2) rfl
  by_cases h : b1 = true
  case neg =>
    have h' : b1 = false := by simpa using h
    have hX : T = false := by rw [HB0.out, h']; rfl
    subst hX
    rw [h']
    clear h h'
    go_wp2
    go_ret
    exact ⟨rfl, HU1.out⟩
  have HB1 : Hid (T = (b2 && (!b3 && b4))) := hid (by rw [HB0.out, h]; rfl)
  have C1 := hid h
  rw [h]
  clear h HB0
  go_wp2_with fail
  refine (M2.out _ (HU1.out)).mono ?_
  rintro e w2 ⟨rfl, hU2⟩
  have HA2 := hid (HA1.out.up hU2)
  have HK2 := hid (HK1.out.up hU2)
  have HU2 := hid (HU1.out.trans hU2)
  clear hU2 HA1 HK1 HU1 c0 c1 c2 c3 c4 c5 k0 k1 k2
  obtain ⟨⟨c0, c1, c2⟩, c3, c4, c5⟩ := HA2.out
  have k0 := HK2.out.val (i := 0) rfl
  have k1 := HK2.out.val (i := 1) rfl
  have k2 := HK2.out.val (i := 2) rfl
  by_cases h : b2 = true
  case neg =>
    have h' : b2 = false := by simpa using h
    have hX : T = false := by rw [HB1.out, h']; rfl
    subst hX
    rw [h']
    clear h h'
    go_wp2
    go_ret
    exact ⟨rfl, HU2.out⟩
  have HB2 : Hid (T = (!b3 && b4)) := hid (by rw [HB1.out, h]; rfl)
  have C2 := hid h
  rw [h]
  clear h HB1
  go_wp2_with fail
  refine (M3.out _ (HU2.out)).mono ?_
  rintro e w3 ⟨rfl, hU3⟩
  have HA3 := hid (HA2.out.up hU3)
  have HK3 := hid (HK2.out.up hU3)
  have HU3 := hid (HU2.out.trans hU3)
  clear hU3 HA2 HK2 HU2 c0 c1 c2 c3 c4 c5 k0 k1 k2
  obtain ⟨⟨c0, c1, c2⟩, c3, c4, c5⟩ := HA3.out
  have k0 := HK3.out.val (i := 0) rfl
  have k1 := HK3.out.val (i := 1) rfl
  have k2 := HK3.out.val (i := 2) rfl
  cases b3
  case true =>
    obtain rfl : T = false := HB2.out
    go_wp2
    go_ret
    exact ⟨rfl, HU3.out⟩
  have HB3 : Hid (T = b4) := hid (by rw [HB2.out]; rfl)
  clear HB2
  go_wp2_with fail
  refine (M4.out _ HU3.out).mono ?_
  rintro e w4 ⟨u, rfl, hu, hU4⟩
  have HA4 := hid (HA3.out.up hU4)
  have HK4 := hid (HK3.out.up hU4)
  have HU4 := hid (HU3.out.trans hU4)
  obtain ⟨ua, uc, rfl, _, _⟩ := hu.shape
  have HUq := hid hu
  clear hU4 hu HA3 HK3 HU3 c0 c1 c2 c3 c4 c5 k0 k1 k2
  by_cases hm : ms.length ≤ 16384
  case neg =>
    have hd : decide (ms.length ≤ 16384) = false := by simpa using hm
    obtain rfl : T = false := by rw [HB3.out]; exact HL.out hm
    rw [hd, if_neg hm]
    clear hd hm
    go_wp2
    go_ret
    exact ⟨rfl, HU4.out⟩
  have hd : decide (ms.length ≤ 16384) = true := by simpa using hm
  rw [if_pos hm] at HUq ⊢
  rw [hd]
  clear hd hm
  obtain ⟨⟨c0, c1, c2⟩, c3, c4, c5⟩ := HA4.out
  have k0 := HK4.out.val (i := 0) rfl
  have k1 := HK4.out.val (i := 1) rfl
  have k2 := HK4.out.val (i := 2) rfl
  go_wp2_with fail
  refine (M5.out _ _ HU4.out HUq.out).mono ?_
  rintro e w5 ⟨rfl, hU5⟩
  have HU5 := hid (HU4.out.trans hU5)
  clear hU5
  obtain rfl : T = b4 := HB3.out
  go_wp2
  go_ret
  exact ⟨rfl, HU5.out⟩
end Go.Proofs.YtkimojconidhlaaDoor
namespace Go.Proofs.YtkimojconidhlaaDoor
open Go.RowKit Go.Sp

theorem frgV_pow {P Q G y c s : Int} (h0 : 0 ≤ s) (h1 : s < Q) : frgV P Q G y c s = gpw P Q G s * gpw P Q y (-c) % P := by rw [frgV, gpw_sc h0 h1]
theorem honest_fits {P Q G x k c : Int} (hg : gvB P Q G = true) (hx : exB Q x = true) (hk : exB Q k = true) : frgV P Q G (pwi P G x) c ((k + c * x % Q) % Q) = pwi P G k := by
  have g := gv_iff.1 hg
  have g2 := g.P4
  have g3 := g.Q3
  obtain ⟨x0, x1⟩ := exB_iff.1 hx
  obtain ⟨k0, k1⟩ := exB_iff.1 hk
  have hG := sgen_el hg
  rw [frgV_pow (Int.emod_nonneg _ (by omega)) (Int.emod_lt_of_pos _ (by omega)), ← gpw_sc (Q := Q) x0 x1, ← gpw_sc (Q := Q) k0 k1, gpw_mul (by omega) (by omega) hG, gpw_add (by omega) (by omega) hG]
  refine gpw_base_mod ?_
  rw [Int.add_emod, Int.emod_emod, ← Int.add_emod, Int.add_assoc, Int.add_emod, Int.add_emod (c * x % Q), Int.emod_emod, ← Int.add_emod (c * x), ← Int.add_emod]
  congr 1
  rw [Int.mul_neg, Int.mul_comm x c]
  omega
theorem eml (a b m : Int) : a % m * b % m = a * b % m := by rw [Int.mul_emod, Int.emod_emod, ← Int.mul_emod]
theorem emr (a b m : Int) : a * (b % m) % m = a * b % m := by rw [Int.mul_emod, Int.emod_emod, ← Int.mul_emod]
theorem undo {P Q y c : Int} (hP : 2 ≤ P) (hQ : 1 ≤ Q) (hy : elB P Q y = true) : gpw P Q y c * gpw P Q y (-c) % P = 1 := by
  rw [gpw_add hP hQ hy, show c + -c = 0 by omega]; exact gpw_zero hP
theorem fits_back {P Q G y c s : Int} (hg : gvB P Q G = true) (hy : elB P Q y = true) (h0 : 0 ≤ s) (h1 : s < Q) : frgV P Q G y c s * gpw P Q y c % P = gpw P Q G s := by
  have g := gv_iff.1 hg
  have g2 := g.P4
  have g3 := g.Q3
  have u := undo (c := c) (show 2 ≤ P by omega) (show 1 ≤ Q by omega) hy
  obtain ⟨r0, r1⟩ := gpw_nonneg (P := P) (Q := Q) (a := G) (m := s) (by omega)
  rw [frgV, ← gpw_sc (Q := Q) h0 h1, eml, Int.mul_assoc, Int.mul_comm (gpw P Q y (-c)), ← emr, u, Int.mul_one]
  exact Int.emod_eq_of_lt r0 r1
theorem one_fit {P Q G y c s x : Int} (hg : gvB P Q G = true) (hy : elB P Q y = true) (h0 : 0 ≤ s) (h1 : s < Q) (hx : elB P Q x = true) : x * gpw P Q y c % P = gpw P Q G s ↔ x = frgV P Q G y c s := by
  have g := gv_iff.1 hg
  have g2 := g.P4
  have g3 := g.Q3
  obtain ⟨x0, x1, _⟩ := el_iff.1 hx
  constructor
  · intro h
    have u := undo (c := c) (show 2 ≤ P by omega) (show 1 ≤ Q by omega) hy
    rw [frgV, ← gpw_sc (Q := Q) h0 h1, ← h, eml, Int.mul_assoc, ← emr, u, Int.mul_one]
    exact (Int.emod_eq_of_lt (by omega) x1).symm
  · intro h
    rw [h]
    exact fits_back hg hy h0 h1
end Go.Proofs.YtkimojconidhlaaDoor
namespace Go.Proofs.YtkimojconidhlaaDoor
open Go.RowKit Go.Sp

/-- A number that was drawn is in its range. -/
theorem numT_in {h : Nat → Int} {q : Int} (q0 : 1 ≤ q) : ∀ (n : Nat) (c x : Int), (numT h q n c x).2.2 = false → 0 ≤ (numT h q n c x).1 ∧ (numT h q n c x).1 < q
  | 0, c, x, _ => ⟨Int.emod_nonneg _ (by omega), Int.emod_lt_of_pos _ (by omega)⟩
  | n + 1, c, x, hf => by
    by_cases hc : c = 1099511627776
    · rw [numT, if_pos hc] at hf
      cases hf
    · rw [numT, if_neg hc] at hf ⊢
      by_cases hy : firK (shaB (posL h c)) 8 % 2 ^ maskN q < q
      · rw [if_pos hy]
        exact ⟨Int.emod_nonneg _ (by have : (0 : Int) < 2 ^ maskN q := Int.pow_pos (by decide); omega), hy⟩
      · rw [if_neg hy] at hf ⊢
        exact numT_in q0 n _ _ hf

/-- A number takes a block at least. -/
theorem numT_more {h : Nat → Int} {q : Int} (n : Nat) (c x : Int) (h0 : 0 ≤ c) (h1 : c ≤ 1099511627776) (hf : (numT h q (n + 1) c x).2.2 = false) : c < (numT h q (n + 1) c x).2.1 := by
  by_cases hc : c = 1099511627776
  · rw [numT, if_pos hc] at hf
    cases hf
  · rw [numT, if_neg hc]
    by_cases hy : firK (shaB (posL h c)) 8 % 2 ^ maskN q < q
    · rw [if_pos hy]
      simp only
      omega
    · rw [if_neg hy]
      have := (numT_range (h := h) (q := q) n (c + 1) (firK (shaB (posL h c)) 8 % 2 ^ maskN q) (by omega) (by omega)).1
      omega

/-- Where the counter is low there is a block. -/
theorem numT_low {h : Nat → Int} {q : Int} : ∀ (n : Nat) (c x : Int), c + n ≤ 1099511627776 → (numT h q n c x).2.2 = false ∧ (numT h q n c x).2.1 ≤ c + n
  | 0, c, x, _ => ⟨rfl, by rw [numT]; simp⟩
  | n + 1, c, x, hl => by
    rw [numT, if_neg (by omega)]
    split
    · exact ⟨rfl, by simp only; omega⟩
    · obtain ⟨h1, h2⟩ := numT_low (h := h) (q := q) n (c + 1) (firK (shaB (posL h c)) 8 % 2 ^ maskN q) (by omega)
      exact ⟨h1, by omega⟩

theorem nzT_low {h : Nat → Int} {q : Int} (q0 : 2 ≤ q) : ∀ (n : Nat) (c : Int), 0 ≤ c → c + 256 * n ≤ 1099511627776 → (nzT h q n c).2.2 = false ∧ (1 ≤ (nzT h q n c).1 ∧ (nzT h q n c).1 < q) ∧ (1 ≤ n → c < (nzT h q n c).2.1)
  | 0, c, _, _ => ⟨rfl, ⟨by rw [nzT]; simp, by rw [nzT]; simp only; omega⟩, fun h => by omega⟩
  | n + 1, c, h0, hl => by
    obtain ⟨f0, l0⟩ := numT_low (h := h) (q := q) 256 c 0 (by omega)
    have m0 : c < (numT h q 256 c 0).2.1 := numT_more (h := h) (q := q) 255 c 0 h0 (by omega) f0
    have r0 := numT_in (by omega) 256 c 0 f0
    by_cases hz : (numT h q 256 c 0).1 = 0
    · rw [nzT_next f0 hz]
      obtain ⟨i1, i2, i3⟩ := nzT_low q0 n (numT h q 256 c 0).2.1 (by omega) (by omega)
      refine ⟨i1, i2, fun _ => ?_⟩
      by_cases hn : 1 ≤ n
      · have := i3 hn
        omega
      · obtain rfl : n = 0 := by omega
        rw [nzT]
        exact m0
    · rw [nzT_num f0 hz]
      exact ⟨rfl, ⟨by simp only; omega, r0.2⟩, fun _ => m0⟩

/-- The bits of a power of 2. -/
theorem maskN_pow (n : Nat) (hn : n ≤ 61) : maskN (2 ^ n) = n := by
  unfold maskN
  have hp : 0 < (2 : Nat) ^ n := Nat.pow_pos (by decide)
  have e : ((2 : Int) ^ n - 1).toNat = 2 ^ n - 1 := by
    have : ((2 ^ n : Nat) : Int) = (2 : Int) ^ n := by simp
    omega
  rw [e]
  by_cases h0 : 2 ^ n - 1 = 0
  · have hn0 : n = 0 := by
      refine Nat.eq_zero_of_not_pos fun h => ?_
      have : 2 ^ 1 ≤ 2 ^ n := Nat.pow_le_pow_right (by decide) h
      omega
    subst hn0
    decide
  · have h64 : (2 : Nat) ^ n ≤ 2 ^ 61 := Nat.pow_le_pow_right (by decide) hn
    have hb := Lib.bitLenAux_bounds 64 (2 ^ n - 1) (by omega) h0
    change 1 ≤ Lib.bitLen (2 ^ n - 1) ∧ 2 ^ (Lib.bitLen (2 ^ n - 1) - 1) ≤ 2 ^ n - 1 ∧ 2 ^ n - 1 < 2 ^ Lib.bitLen (2 ^ n - 1) at hb
    generalize Lib.bitLen (2 ^ n - 1) = b at *
    obtain ⟨b1, b2, b3⟩ := hb
    have c1 : n ≤ b := (Nat.pow_le_pow_iff_right (by decide)).1 (show 2 ^ n ≤ 2 ^ b by omega)
    have c2 : b - 1 < n := (Nat.pow_lt_pow_iff_right (by decide)).1 (show 2 ^ (b - 1) < 2 ^ n by omega)
    omega

theorem numT_pow {h : Nat → Int} {n : Nat} (hn : n ≤ 61) {c : Int} (hc : c ≠ 1099511627776) : numT h (2 ^ n) 256 c 0 = (firK (shaB (posL h c)) 8 % 2 ^ n, c + 1, false) := by
  rw [numT, if_neg hc, maskN_pow n hn, if_pos (Int.emod_lt_of_pos _ (Int.pow_pos (by decide)))]

/-- The counter, and the flag, behind k numbers of a list; the number that comes next. -/
def lstC (h : Nat → Int) (q c : Int) : Nat → Int
  | 0 => c
  | k + 1 => (numT h q 256 (lstC h q c k) 0).2.1
def lstX (h : Nat → Int) (q c : Int) (k : Nat) : Int := (numT h q 256 (lstC h q c k) 0).1
def lstF (h : Nat → Int) (q c : Int) : Nat → Bool
  | 0 => false
  | k + 1 => (numT h q 256 (lstC h q c k) 0).2.2
def lstL (h : Nat → Int) (q c : Int) (n : Nat) : List Int := (List.range n).map (lstX h q c)

theorem lstC_range {h : Nat → Int} {q c : Int} (h0 : 0 ≤ c) (h1 : c ≤ 1099511627776) : ∀ k, 0 ≤ lstC h q c k ∧ lstC h q c k ≤ 1099511627776
  | 0 => ⟨h0, h1⟩
  | k + 1 => by
    obtain ⟨i0, i1⟩ := lstC_range h0 h1 k
    have := numT_range (h := h) (q := q) 256 (lstC h q c k) 0 i0 i1
    rw [lstC]
    omega
theorem numT_stuck {h : Nat → Int} {q : Int} : ∀ (n : Nat) (c x : Int), (numT h q n c x).2.2 = true → (numT h q n c x).2.1 = 1099511627776
  | 0, c, x, hf => by cases hf
  | n + 1, c, x, hf => by
    by_cases hc : c = 1099511627776
    · rw [numT, if_pos hc]; exact hc
    · rw [numT, if_neg hc] at hf ⊢
      split at hf
      · cases hf
      · rename_i hy
        rw [if_neg hy]
        exact numT_stuck n _ _ hf
theorem lstF_stuck {h : Nat → Int} {q c : Int} : ∀ k, lstF h q c k = true → lstC h q c k = 1099511627776
  | 0, hf => by cases hf
  | k + 1, hf => numT_stuck 256 _ _ hf
theorem lstF_on {h : Nat → Int} {q c : Int} {k : Nat} (hf : lstF h q c k = true) : lstF h q c (k + 1) = true := by
  rw [lstF, numT_most (by omega) (lstF_stuck k hf)]
theorem lstF_back {h : Nat → Int} {q c : Int} {n : Nat} (hf : lstF h q c n = false) : ∀ k, k ≤ n → lstF h q c k = false := by
  intro k hk
  induction n with
  | zero => obtain rfl : k = 0 := by omega
            rfl
  | succ n ih =>
    by_cases hkn : k = n + 1
    · rw [hkn]; exact hf
    · refine ih ?_ (by omega)
      cases hfn : lstF h q c n with
      | false => rfl
      | true => rw [lstF_on hfn] at hf; cases hf
theorem lstL_succ (h : Nat → Int) (q c : Int) (n : Nat) : lstL h q c (n + 1) = lstL h q c n ++ [lstX h q c n] := by
  unfold lstL
  rw [List.range_succ, List.map_append]
  rfl
theorem lstL_length (h : Nat → Int) (q c : Int) (n : Nat) : (lstL h q c n).length = n := by simp [lstL]
theorem lstL_get {h : Nat → Int} {q c : Int} {n k : Nat} (hk : k < n) : (lstL h q c n).getD k 0 = lstX h q c k := by
  unfold lstL
  simp [hk]
end Go.Proofs.YtkimojconidhlaaDoor
