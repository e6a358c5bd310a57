/- A region that draws its order and ends in a store: what the loads read is kept as far as the last operation, which waits for all others. Over any program. Package restrict: the challenge of a coin. Package transcript: labels; the frame that is hashed. Package transcript: the hash of a frame. Package draw: Next. -/
import Derived.Test.YtkimojconidhlaaDoorMB3
import Derived.Test.YtkimojconidhlaaDoorMB13
import Derived.Test.YtkimojconidhlaaDoorMB4
import Derived.Test.YtkimojconidhlaaDoorMB6
import Derived.Test.YtkimojconidhlaaDoorMB7
import Derived.Deep.RegionHeld3
import Derived.Deep.RegionLaw
import Derived.Deep.DrawnRows
namespace Go.Sp
open Go.RowKit

section
variable {P : Program} {ops : Array Oper} {Q : Exit → Act → World → Prop} {S : World → Prop} {last : Nat}

/-- Whatever comes up next, S holds behind it, but behind the last operation. -/
def anyE (P : Program) (ops : Array Oper) (Q : Exit → Act → World → Prop) (S : World → Prop) (last : Nat) : Nat → Array Bool → Act → World → Prop
  | 0, listed, a, w => Region.ready .any ops listed = [] ∧ Q .normal a w
  | n + 1, listed, a, w => (Region.ready .any ops listed = [] → Q .normal a w) ∧ ∀ j ∈ Region.ready .any ops listed, wpOp P ops Q j (fun b u => (j = last ∨ S u) ∧ anyE P ops Q S last n (listed.setIfInBounds j true) b u) a w

theorem any_of_E : ∀ (n : Nat) (listed : Array Bool) (a : Act) (w : World), anyE P ops Q S last n listed a w → wpAny P .any ops Q n listed a w
  | 0, _, _, _, h => h
  | n + 1, _, _, _, h => ⟨h.1, fun j hj => wpOp_mono (fun b u k => any_of_E n _ b u k.2) (h.2 j hj)⟩

/-- The last operation waits for all others. -/
def endB (ops : Array Oper) (last : Nat) : Bool := (List.range ops.size).all fun i => i == last || (match ops[last]? with | some o => o.after.any fun e => Region.binds .any e && e.on == i | none => false)

theorem end_spec (h : endB ops last = true) {listed : Array Bool} (hr : last ∈ Region.ready .any ops listed) {i : Nat} (hi : i < ops.size) (hne : i ≠ last) : listed.getD i false = true := by
  have h1 := List.all_eq_true.1 h i (List.mem_range.2 hi)
  obtain ⟨_, o, ho, hall⟩ := mem_ready.1 hr
  simp only [ho, Bool.or_eq_true, beq_iff_eq] at h1
  rcases h1 with h1 | h1
  · exact absurd h1 hne
  · obtain ⟨e, he, hb⟩ := Array.any_eq_true'.1 h1
    simp only [Bool.and_eq_true, beq_iff_eq] at hb
    rw [← hb.2]
    exact hall e he hb.1

theorem unlisted {listed : Array Bool} {i : Nat} (h : listed.getD i true = false) : listed.getD i false = false := by
  by_cases hi : i < listed.size
  · simp [hi] at h ⊢; exact h
  · simp [hi] at h

/-- What yields under S may be taken first. -/
theorem anyE_take {i : Nat} {o : Oper} {v : Value} (d : Tmp) (ho : ops[i]? = some o) (hd : o.dst = some d) (hs : Region.noSelect ops = true) (he : endB ops last = true) (hil : i ≠ last) (hQ : ∀ c a w, Q (.panic c) (a.put (some d) v) w → Q (.panic c) a w) :
    ∀ {n : Nat} {listed : Array Bool} {a : Act} {w : World}, Region.free .any ops listed i = true → (Region.ready .any ops listed).contains i = true → YieldsIf P ops S o v a → S w →
      anyE P ops Q S last n (listed.setIfInBounds i true) (a.put (some d) v) w → anyE P ops Q S last (n + 1) listed a w := by
  rw [← hd] at hQ ⊢
  have hsz : i < ops.size := (Array.getElem?_eq_some_iff.1 ho).1
  intro n
  have key : ∀ (n : Nat) (listed : Array Bool) (a : Act) (w : World), (∀ j oj, ops[j]? = some oj → j ≠ i → listed.getD j true = false → (∀ e ∈ oj.after, Region.binds .any e = true → e.on ≠ i) → o.apart ops oj = true) → i ∈ Region.ready .any ops listed → YieldsIf P ops S o v a → S w →
      anyE P ops Q S last n (listed.setIfInBounds i true) (a.put o.dst v) w → anyE P ops Q S last (n + 1) listed a w := by
    intro n
    induction n with
    | zero =>
      intro listed a w _ hr hy hS h
      refine ⟨fun h0 => absurd hr (by rw [h0]; simp), fun j hj => ?_⟩
      by_cases hji : j = i
      · subst hji
        exact hy.wpOp ho hS ⟨.inr hS, h⟩
      · exact absurd (ready_mono hj hji) (by rw [h.1]; simp)
    | succ n ih =>
      intro listed a w hf hr hy hS h
      refine ⟨fun h0 => absurd hr (by rw [h0]; simp), fun j hj => ?_⟩
      by_cases hji : j = i
      · subst hji
        exact hy.wpOp ho hS ⟨.inr hS, h⟩
      have hun := (mem_ready.1 hr).1
      have hjl : j ≠ last := fun hl => by
        subst hl
        have := end_spec he hj hsz (fun h => hil h)
        rw [unlisted hun] at this
        cases this
      obtain ⟨hju, oj, hoj, hall⟩ := mem_ready.1 hj
      have hno : ∀ e ∈ oj.after, Region.binds .any e = true → e.on ≠ i := fun e hm hb hx => by
        have := hall e hm hb
        rw [hx, unlisted hun] at this
        cases this
      have hstep := wpOp_putIf hoj (hf j oj hoj hji hju hno) (fun cs b => Region.noSelect_spec hs i o cs b ho) (fun cs b => Region.noSelect_spec hs j oj cs b hoj) hQ hy (h.2 j (ready_mono hj hji))
      refine wpOp_mono (fun b u k => ?_) hstep
      obtain ⟨hy2, hSu, hrest⟩ := k
      have hSu' : S u := by
        rcases hSu with hSu | hSu
        · exact absurd hSu hjl
        · exact hSu
      refine ⟨.inr hSu', ih _ b u (fun k ok hk hki hku hkn => hf k ok hk hki ?_ hkn) (ready_mono hr (Ne.symm hji)) hy2 hSu' ?_⟩
      · by_cases hjk : j = k
        · subst hjk; exact hju
        · rw [getD_set_ne true hjk] at hku; exact hku
      · rw [Array.setIfInBounds_comm _ _ hji]
        exact hrest
  intro listed a w hf hr hy hS h
  exact key n listed a w (fun j oj h1 h2 h3 h4 => Region.free_spec ho hf j oj h1 h2 h3 h4) (by simpa using hr) hy hS h

/-- One alone may come up. -/
theorem anyE_one {i : Nat} {o : Oper} {n : Nat} {listed : Array Bool} {a : Act} {w : World} (ho : ops[i]? = some o) (hr : Region.ready .any ops listed = [i]) (hg : o.guard = none)
    (h : ∀ K : Act → World → Prop, Hid (∀ b u, (i = last ∨ S u) → anyE P ops Q S last n (listed.setIfInBounds i true) b u → K b u) → o.wp P a w K Q) : anyE P ops Q S last (n + 1) listed a w := by
  refine ⟨fun h0 => (by rw [hr] at h0; cases h0), fun j hj => ?_⟩
  rw [hr] at hj
  obtain rfl : j = i := by simpa using hj
  unfold wpOp
  simp only [ho]
  rw [if_pos (by simp [Region.wanted, hg])]
  exact .inl (h _ (hid fun b u hS k => ⟨hS, k⟩))

theorem anyE_done {listed : Array Bool} {a : Act} {w : World} (hr : Region.ready .any ops listed = []) (h : Q .normal a w) : ∀ n, anyE P ops Q S last n listed a w
  | 0 => ⟨hr, h⟩
  | _ + 1 => ⟨fun _ => h, by rw [hr]; simp⟩

theorem region_E {id : Nat} {a : Act} {w : World} (S : World → Prop) (last : Nat) (hm : P.follows .mixedOrders = true) (hS : S w.drew) (h : S w.drew → anyE P ops Q S last ops.size (Array.replicate ops.size false) a w.drew) : (Code.region id ops true).wp P Q a w :=
  wp_region_any hm (any_of_E _ _ _ _ (h hS))
end
end Go.Sp
namespace Go.Proofs.YtkimojconidhlaaDoor
open Go.RowKit Go.Sp
set_option maxHeartbeats 4000000
set_option maxRecDepth 20000

theorem infoItm : (Tryd.prog.info? 53).map (fun i => (i.zero, i.size, i.bytes)) = some (some (.agg #[.int .i64 0, .int .i64 0, nilS, nilS]), 4, 64) := by kernel_rfl

/-- The seven numbers of bases and a pseudonym. -/
def nums7 (P Q G A B C p : Int) : List Int := [P, Q, G, A, B, C, p]
def quadI (n : Int) : Quad := ⟨1, n, nilS, nilS⟩
theorem quadI_at (w : World) (d : Nat) (l : List Int) : QuadAt w d (l.map quadI) (l.map encInt) := by
  refine ⟨by simp, fun i hi => ?_⟩
  have hi' : i < l.length := by simpa using hi
  have e : (l.map encInt).getD i [] = encInt l[i] := by
    rw [List.getD_eq_getElem?_getD, List.getElem?_map, List.getElem?_eq_getElem hi']
    rfl
  rw [e]
  simp only [List.getElem_map, quadI]
  exact itm_int w _ d

/-- The text ahead of a coin's encoding. -/
def coinTag : ByteArray := { data := #[115, 112, 101, 99, 105, 101, 47, 99, 111, 105, 110] }
theorem coinTag_txt : txt coinTag = tagCoin := by decide

/-- The error of a challenge. -/
def chlE (P Q G A B C p z a b : Int) : Int := if bvB P Q G A B C = true then (if [p, z, a, b].all (elB P Q) = true then 0 else 2) else 1
def chlV (P Q G A B C p : Int) (root : Nat → Int) (z a b : Int) : Int := if chlE P Q G A B C p z a b = 0 then coinC P Q G A B C p root z a b else 0

/-- The four items behind the seven. -/
def chlQ (o : Nat) (z a b : Int) : List Quad := [⟨2, 0, .slice (some ⟨o, 0, none⟩) 32 32, nilS⟩, quadI z, quadI a, quadI b]
theorem chlQ_cells {w : World} {g o : Nat} {z a b : Int} {t : TypeId} (hg : w.heap.size = g) : ∀ i (h : i < (chlQ o z a b).length), ItmCells (w.alloc (.cells #[.int .i64 2, .int .i64 0, .slice (some ⟨o, 0, none⟩) 32 32, nilS, .int .i64 1, .int .i64 z, nilS, nilS, .int .i64 1, .int .i64 a, nilS, nilS, .int .i64 1, .int .i64 b, nilS, nilS] t)) g (i * 4) (chlQ o z a b)[i].k (chlQ o z a b)[i].n (chlQ o z a b)[i].b (chlQ o z a b)[i].l := by
  intro i h
  have hB : Blk (w.alloc (.cells #[.int .i64 2, .int .i64 0, .slice (some ⟨o, 0, none⟩) 32 32, nilS, .int .i64 1, .int .i64 z, nilS, nilS, .int .i64 1, .int .i64 a, nilS, nilS, .int .i64 1, .int .i64 b, nilS, nilS] t)) g t #[.int .i64 2, .int .i64 0, .slice (some ⟨o, 0, none⟩) 32 32, nilS, .int .i64 1, .int .i64 z, nilS, nilS, .int .i64 1, .int .i64 a, nilS, nilS, .int .i64 1, .int .i64 b, nilS, nilS] := Blk.new hg rfl
  have : i = 0 ∨ i = 1 ∨ i = 2 ∨ i = 3 := by simp [chlQ] at h; omega
  rcases this with rfl | rfl | rfl | rfl <;> exact ⟨hB.val rfl, hB.val rfl, hB.val rfl, hB.val rfl⟩
theorem chlQ_one {o : Nat} {z a b : Int} : ∀ i (h : i < (chlQ o z a b).length), (chlQ o z a b)[i].b.oneCell' = true ∧ (chlQ o z a b)[i].l.oneCell' = true := by
  intro i h
  have : i = 0 ∨ i = 1 ∨ i = 2 ∨ i = 3 := by simp [chlQ] at h; omega
  rcases this with rfl | rfl | rfl | rfl <;> exact ⟨rfl, rfl⟩
theorem chlQ_at {w : World} {o : Nat} {root : Nat → Int} (P Q G A B C p z a b : Int) (hs : SeqAt .u8 w (.slice (some ⟨o, 0, none⟩) 32 32) (hList root)) (hR : Byt root) : QuadAt w 0 ((nums7 P Q G A B C p).map quadI ++ chlQ o z a b) (coinL P Q G A B C p root z a b) := by
  refine QuadAt.app (quadI_at w 0 _) ?_
  refine QuadAt.app (qs := [_]) (es := [_]) (QuadAt.one (itm_bytes hs (by rw [hList_length]; omega) (hList_bytes hR) 0)) ?_
  exact quadI_at w 0 [z, a, b]

theorem ints4_at {w : World} {g : Nat} {x y z u : Int} {t : TypeId} (hg : w.heap.size = g) : IntsAt (w.alloc (.cells #[.int .i64 x, .int .i64 y, .int .i64 z, .int .i64 u] t)) (.slice (some ⟨g, 0, none⟩) 4 4) [x, y, z, u] := by
  subst hg
  exact ints_at (xs := [x, y, z, u]) (by simp) fun i hi => by
    have : i = 0 ∨ i = 1 ∨ i = 2 ∨ i = 3 := by simp at hi; omega
    rcases this with rfl | rfl | rfl | rfl <;> go_simp

end Go.Proofs.YtkimojconidhlaaDoor
namespace Go.Proofs.YtkimojconidhlaaDoor
open Go.RowKit Go.Sp
set_option maxHeartbeats 4000000
set_option maxRecDepth 20000

/-- A text that is a label. -/
structure Lab (s : ByteArray) : Prop where
  one : 1 ≤ s.size
  max : s.size ≤ 24
  chr : ∀ x ∈ txt s, 33 ≤ x ∧ x ≤ 126

theorem labelChar (x : Int) (w : World) (h0 : 33 ≤ x) (h1 : x ≤ 126) : Calls Tryd.prog 93 #[.int .u8 x] w fun e w' => e = .returned (.bool false) ∧ Up w w' := by
  have d0 : decide (x < 33) = false := by simp; omega
  have d1 : decide (x > 126) = false := by simp; omega
  go_enter Tryd.func93, Tryd.ntmps93
  go_wp2
  go_ret
  exact ⟨rfl, Up.refl w⟩

theorem IndexFuncB (v : Value) (xs : List Int) (w : World) (hv : SeqAt .u8 w v xs) (hx : ∀ x ∈ xs, 33 ≤ x ∧ x ≤ 126) :
    Calls Tryd.prog 99 #[v, .func (.func 93) #[] #[]] w fun e w' => e = .returned (.int .i64 (-1)) ∧ Up w w' := by
  have HX := hid hx
  have HV := hid hv
  obtain ⟨a, cap, rfl, hc1, hc2⟩ := hv.shape
  obtain ⟨m, hm⟩ : ∃ m, xs.length = m := ⟨_, rfl⟩
  have HM := hid hm
  rw [hm] at hc1
  rw [hm]
  clear hv hx hm
  go_enter Tryd.func99, Tryd.ntmps99
  go_wp2_with fail
  go_loopw [8] (fun vi wr => ∃ i : Nat, i ≤ m ∧ vi = .int .i64 i ∧ Hid (Up w wr)) (fun vi _ => m - (intOf vi).toNat)
  case atStart => exact ⟨0, by omega, rfl, hid (Up.refl _)⟩
  case round =>
    obtain ⟨i, him, rfl, HU⟩ := hrel
    by_cases hl : i < m
    · have hl2 : i < xs.length := by rw [HM.out]; exact hl
      obtain ⟨b, off, c, he, hc⟩ := (HV.out.up HU.out).cell hl2
      obtain ⟨rfl, _, rfl⟩ := (Value.slice.inj he)
      have hx := HX.out (xs.getD i 0) (by simp [hl2])
      clear he hl2
      generalize xs.getD i 0 = x at *
      have HE := hid (fun w' => labelChar x w' hx.1 hx.2)
      clear hx
      go_wp2_with fail
      refine (HE.out _).mono ?_
      rintro e w2 ⟨rfl, hU2⟩
      have HU2 := hid (HU.out.trans hU2)
      clear hU2 hc HE
      go_wp2_with fail
      go_roundw
      case rel => exact ⟨i + 1, by omega, by go_num, HU2⟩
      case measure => simp [intOf]; omega
    · have hl2 : decide (i < m) = false := by simpa using hl
      go_wp2
      go_ret
      exact ⟨rfl, HU.out⟩

theorem ContainsFuncB (v : Value) (xs : List Int) (w : World) (hv : SeqAt .u8 w v xs) (hx : ∀ x ∈ xs, 33 ≤ x ∧ x ≤ 126) :
    Calls Tryd.prog 92 #[v, .func (.func 93) #[] #[]] w fun e w' => e = .returned (.bool false) ∧ Up w w' := by
  have HI := hid (IndexFuncB v xs w hv hx)
  clear hv hx
  go_enter Tryd.func92, Tryd.ntmps92
  go_wp2_with fail
  refine HI.out.mono ?_
  rintro e w2 ⟨rfl, hU2⟩
  go_wp2
  go_ret
  exact ⟨rfl, hU2⟩

theorem tvalid_ok (s : ByteArray) (w : World) (h : Lab s) : Calls Tryd.prog 74 #[.string s] w fun e w' => e = .returned (.bool true) ∧ Up w w' := by
  have HL := hid h
  have d0 : decide ((s.size : Int) ≥ 1) = true := by have := h.one; simp; omega
  have d1 : decide ((s.size : Int) ≤ 24) = true := by have := h.max; simp; omega
  have d2 : s.size ≤ 24 := h.max
  have hcv := fun w' => run_bytes_of_string (P := Tryd.prog) w' 9 50 5 s Tryd.underlying9 Tryd.underlying50 Tryd.underlying5
  clear h
  go_enter Tryd.func74, Tryd.ntmps74
  go_wp2_with fail
  refine (ContainsFuncB _ (txt s) _ (seq_text_at s _ _ _ rfl cap_ge (cap_le (by omega))) HL.out.chr).mono ?_
  rintro e w1 ⟨rfl, hU1⟩
  clear hcv
  go_wp2
  go_ret
  exact ⟨rfl, (((Up.refl w).alloc _).drew).trans hU1⟩

theorem tValid_ok (h : Nat → Int) (c : Int) (w : World) (c0 : 0 ≤ c) (c1 : c ≤ 1000) : Calls Tryd.prog 78 #[drw h c] w fun e w' => e = .returned (.bool true) ∧ Up w w' := by
  have hq := drwA_ctr h c
  unfold drw
  generalize drwA h c = cs at *
  have d0 : decide (c ≥ 0) = true := by simp; omega
  have d1 : decide (c ≤ 1000) = true := by simp; omega
  go_enter Tryd.func78, Tryd.ntmps78
  go_wp2
  go_ret
  exact ⟨rfl, (Up.refl w).alloc _⟩

theorem OwnQ.inside {e : TypeId} {w : World} {base : Nat} {v : Value} {qs : List Quad} (h : OwnQ e w base v qs) (j : Nat) (hj : v.ownBlock = some j) : j < w.heap.size := by
  rcases h.2 with ⟨hv, _⟩ | ⟨g, cap, cur, rfl, hb, hg, _⟩
  · rw [hv] at hj; cases hj
  · simp [Value.ownBlock] at hj
    subst hj
    exact (Array.getElem?_eq_some_iff.1 hg).1
theorem stopHere {p : Prop} (h : Hid p) : p := h

/-- Two items in a block of their own. -/
theorem own_two {w : World} {g base : Nat} {e : TypeId} {b1 b2 : Value} (hg : w.heap.size = g) (hb : base ≤ g) :
    OwnQ e (w.alloc (.cells #[.int .i64 2, .int .i64 0, b1, nilS, .int .i64 2, .int .i64 0, b2, nilS] e)) base (.slice (some ⟨g, 0, none⟩) 2 2) [⟨2, 0, b1, nilS⟩, ⟨2, 0, b2, nilS⟩] := by
  have h : Blk (w.alloc (.cells #[.int .i64 2, .int .i64 0, b1, nilS, .int .i64 2, .int .i64 0, b2, nilS] e)) g e #[.int .i64 2, .int .i64 0, b1, nilS, .int .i64 2, .int .i64 0, b2, nilS] := Blk.new hg rfl
  exact ⟨rfl, .inr ⟨g, 2, _, rfl, hb, h, Nat.le_refl _, by unfold maxLen; omega, rfl, rfl⟩⟩

/-- append(l, more...), where there are none more. -/
theorem wp_appQ_none {P : Program} {e t : TypeId} {z : Value} {bytes : Nat} (hI : (P.info? e).map (fun i => (i.zero, i.size, i.bytes)) = some (some z, 4, bytes)) (ht : P.underlying t = some (.slice e))
    {ops : Array Oper} {rest : List Oper} {o : Oper} {a : Act} {w : World} {Q : Exit → Act → World → Prop} (hgd : o.guard = none) (s x : Operand)
    (ho : o.op = .call { callee := .builtin .append, args := #[s, x], argTypes := #[t, t] })
    (base : Nat) {v : Value} {qs : List Quad} (hs : a.eval s = v) (hown : OwnQ e w base v qs) (hx : a.eval x = nilS) (h : wpList P ops Q rest (a.put o.dst v) w) : wpList P ops Q (o :: rest) a w := by
  obtain ⟨i0, hi, hz0, hz1, hz2⟩ := info_parts hI
  exact wpList_append_own_none hgd s x t ho base e i0 4 ht hi v qs.length _ hs hown hx h
end Go.Proofs.YtkimojconidhlaaDoor
namespace Go.Proofs.YtkimojconidhlaaDoor
open Go.RowKit Go.Sp
set_option maxHeartbeats 4000000
set_option maxRecDepth 20000

theorem frameE_byt {h : Nat → Int} {s : List Int} {more : List (List Int)} (hB : Byt h) (hs : ∀ x ∈ s, 0 ≤ x ∧ x ≤ 255) (hm : ∀ e ∈ more, ∀ x ∈ e, 0 ≤ x ∧ x ≤ 255) : ∀ x ∈ frameE h s more, 0 ≤ x ∧ x ≤ 255 := by
  refine encList_byt fun e he => ?_
  simp only [List.mem_cons] at he
  rcases he with rfl | rfl | he
  · exact encBytes_byt (hList_bytes hB)
  · exact encBytes_byt hs
  · exact hm e he

theorem zero32h : #[.int .u8 0, .int .u8 0, .int .u8 0, .int .u8 0, .int .u8 0, .int .u8 0, .int .u8 0, .int .u8 0, .int .u8 0, .int .u8 0, .int .u8 0, .int .u8 0, .int .u8 0, .int .u8 0, .int .u8 0, .int .u8 0, .int .u8 0, .int .u8 0, .int .u8 0, .int .u8 0, .int .u8 0, .int .u8 0, .int .u8 0, .int .u8 0, .int .u8 0, .int .u8 0, .int .u8 0, .int .u8 0, .int .u8 0, .int .u8 0, .int .u8 0, .int .u8 0] = arrK .u8 (fun _ => 0) 32 := by kernel_rfl

/-- What a frame's two first items are. -/
def frQ (o o2 n cp : Nat) : List Quad := [⟨2, 0, .slice (some ⟨o, 0, none⟩) 32 32, nilS⟩, ⟨2, 0, .slice (some ⟨o2, 0, none⟩) n cp, nilS⟩]
theorem frQ_at {w : World} {o o2 cp d : Nat} {cs : Array Value} {t : TypeId} {h : Nat → Int} {s : ByteArray} (hb : Blk w o t cs) (hg : ∀ i, i < 32 → cs[i]? = some (.int .u8 (h i))) (hB : Byt h) (hs : SeqAt .u8 w (.slice (some ⟨o2, 0, none⟩) s.size cp) (txt s)) (hl : s.size ≤ 24) :
    QuadAt w d (frQ o o2 s.size cp) [encBytes (hList h), encBytes (txt s)] := by
  have h1 : QuadAt w d [⟨2, 0, .slice (some ⟨o, 0, none⟩) 32 32, nilS⟩] [encBytes (hList h)] := QuadAt.one (itm_bytes (seedAt hb hg) (by rw [hList_length]; omega) (hList_bytes hB) d)
  have h2 : QuadAt w d [⟨2, 0, .slice (some ⟨o2, 0, none⟩) s.size cp, nilS⟩] [encBytes (txt s)] := QuadAt.one (itm_bytes hs (by rw [txt_length]; omega) (txt_byt s) d)
  exact h1.app h2

theorem thash_one (tag : ByteArray) (h : Nat → Int) (c : Int) (s : ByteArray) (g0 : Nat) (q : Quad) (es : List Int) (w : World) (hT : TabS w) (hB : Byt h) (ht0 : 1 ≤ tag.size) (ht1 : tag.size ≤ 100) (hs : Lab s)
    (hc : ItmCells w g0 0 q.k q.n q.b q.l) (hq : ItmAt w 6 q.k q.n q.b q.l es) (hl : es.length ≤ 16000) (hes : ∀ x ∈ es, 0 ≤ x ∧ x ≤ 255) :
    Calls Tryd.prog 79 #[.string tag, drw h c, .string s, .slice (some ⟨g0, 0, none⟩) 1 1] w fun e w' => e = .returned (.tuple #[hashV (tagB (txt tag) (frameE h (txt s) [es])), .int .i64 0]) ∧ Up w w' := by
  obtain ⟨F, hF⟩ : ∃ F, frameE h (txt s) [es] = F := ⟨_, rfl⟩
  have HF : Hid (F = encList [encBytes (hList h), encBytes (txt s), es]) := hid hF.symm
  have hFl : F.length ≤ 16384 := by rw [← hF, frameE_length, txt_length]; have := hs.max; simp; omega
  have hFb : ∀ x ∈ F, 0 ≤ x ∧ x ≤ 255 := by
    rw [← hF]
    exact frameE_byt hB (txt_byt s) (fun e he => by
      simp at he
      subst he
      exact hes)
  have HTg := hid (fun w' (v' : Value) (hU : Up w w') (hv' : SeqAt .u8 w' v' F) => Tagged_any tag v' F w' (hT.up hU) ht0 ht1 hv' (by omega) hFb)
  rw [hF]
  generalize tagB (txt tag) F = R at *
  have HL := hid hs
  have HC := hid hc
  have HQ := hid hq
  have HBh := hid hB
  have HFl := hid hFl
  have hget := fun i (hi : i < 32) => drwA_get h c hi
  have HG := hid hget
  have d2 : s.size ≤ 24 := hs.max
  have hcv := fun w' => run_bytes_of_string (P := Tryd.prog) w' 9 50 5 s Tryd.underlying9 Tryd.underlying50 Tryd.underlying5
  unfold drw
  generalize drwA h c = cs at *
  clear hT hB ht0 ht1 hs hc hq hl hes hF hFl hFb hget
  obtain ⟨o, ho⟩ : ∃ o, w.heap.size = o := ⟨_, rfl⟩
  have HO := hid ho
  obtain ⟨o1, ho1⟩ : ∃ o1, o + 1 = o1 := ⟨_, rfl⟩
  have HO1 := hid ho1
  obtain ⟨o2, ho2⟩ : ∃ o2, o1 + 1 = o2 := ⟨_, rfl⟩
  have HO2 := hid ho2
  obtain ⟨o3, ho3⟩ : ∃ o3, o2 + 1 = o3 := ⟨_, rfl⟩
  have HO3 := hid ho3
  clear ho ho1 ho2 ho3
  go_enter Tryd.func79, Tryd.ntmps79
  go_wp2_with (at_builtin; refine stopHere ?_)
  clear hcv
  unfold Hid
  generalize hcp : grownCap _ _ _ _ = cp
  generalize hW : World.alloc _ _ = w0
  have hc0 : s.size ≤ cp := by rw [← hcp]; exact cap_ge
  have hc1 : cp ≤ 9223372036854775807 := by rw [← hcp]; exact cap_le (by omega)
  have HU0 : Hid (Up w w0.drew) := hid (by rw [← hW]; exact (((((Up.refl w).alloc _).alloc _).alloc _).alloc _).drew)
  have HS0 : Hid (Blk w0.drew o 108 cs) := hid (by rw [← hW]; exact ((((Blk.new HO.out rfl).alloc _).alloc _).alloc _).up (Up.refl _).drew)
  have HZ0 : Hid (Blk w0.drew o1 28 (arrK .u8 (fun _ => 0) 32)) := hid (by rw [← hW]; exact (((Blk.new (by have := HO.out; have := HO1.out; simp; omega) zero32h).alloc _).alloc _).up (Up.refl _).drew)
  have HX0 : Hid (SeqAt .u8 w0.drew (.slice (some ⟨o2, 0, none⟩) s.size cp) (txt s)) := hid (by
    rw [← hW]
    have h := seq_text ((w.alloc (.cells cs 108)).alloc (.cells #[.int .u8 0, .int .u8 0, .int .u8 0, .int .u8 0, .int .u8 0, .int .u8 0, .int .u8 0, .int .u8 0, .int .u8 0, .int .u8 0, .int .u8 0, .int .u8 0, .int .u8 0, .int .u8 0, .int .u8 0, .int .u8 0, .int .u8 0, .int .u8 0, .int .u8 0, .int .u8 0, .int .u8 0, .int .u8 0, .int .u8 0, .int .u8 0, .int .u8 0, .int .u8 0, .int .u8 0, .int .u8 0, .int .u8 0, .int .u8 0, .int .u8 0, .int .u8 0] 28)) s cp 5 ((bytesRow s cp).size, (bytesRow s cp).size + 1) hc0 hc1
    rw [show ((w.alloc (.cells cs 108)).alloc (.cells #[.int .u8 0, .int .u8 0, .int .u8 0, .int .u8 0, .int .u8 0, .int .u8 0, .int .u8 0, .int .u8 0, .int .u8 0, .int .u8 0, .int .u8 0, .int .u8 0, .int .u8 0, .int .u8 0, .int .u8 0, .int .u8 0, .int .u8 0, .int .u8 0, .int .u8 0, .int .u8 0, .int .u8 0, .int .u8 0, .int .u8 0, .int .u8 0, .int .u8 0, .int .u8 0, .int .u8 0, .int .u8 0, .int .u8 0, .int .u8 0, .int .u8 0, .int .u8 0] 28)).heap.size = o2 by have := HO.out; have := HO1.out; have := HO2.out; simp; omega] at h
    exact (h.up ((Up.refl _).alloc _)).up (Up.refl _).drew)
  have HQ0 : Hid (OwnQ 53 w0.drew o3 (.slice (some ⟨o3, 0, none⟩) 2 2) (frQ o o2 s.size cp)) := hid (by
    rw [← hW, HO.out, HO1.out, HO2.out]
    exact (own_two (by have := HO.out; have := HO1.out; have := HO2.out; have := HO3.out; simp; omega) (Nat.le_refl _)).up (Up.refl _).drew)
  rw [HO.out, HO1.out, HO2.out, HO3.out]
  clear hcp hW
  have hz : o3 ≤ w0.drew.heap.size := by have := OwnQ.inside HQ0.out o3 rfl; omega
  generalize w0.drew = w1 at *
  refine wp_appQ infoItm rfl Tryd.underlying51 (by omega) rfl _ _ rfl o3 rfl HQ0.out g0 1 (news := [q]) rfl (fun j hj => by
    obtain rfl : j = 0 := by simp at hj; omega
    exact HC.out.up HU0.out) (fun j hj => by
    obtain rfl : j = 0 := by simp at hj; omega
    exact HQ.out.one) (by simp [frQ]) hz ?_
  intro v3 w3 hO3 hg3
  have hB3 := HQ0.out.below hg3 hz
  have HU3 := hid (up_below HU0.out hB3 (by have := HO.out; have := HO1.out; have := HO2.out; have := HO3.out; omega))
  have HS3 := hid (HS0.out.below hB3 (by have := HO1.out; have := HO2.out; have := HO3.out; omega))
  have HZ3 := hid (HZ0.out.below hB3 (by have := HO2.out; have := HO3.out; omega))
  have HX3 := hid (HX0.out.below hB3 (fun b off n c he => by
    have := (Value.slice.inj he).1
    injection this with this
    injection this with this _ _
    have := HO3.out
    omega))
  have HIt : Hid (ItmAt w3 7 3 0 nilS v3 F) := hid (by
    rw [HF.out]
    exact itm_list (hO3.row ((frQ_at HS3.out HG.out HBh.out HX3.out d2).app (QuadAt.one (HQ.out.up HU3.out)))) (by simp))
  obtain ⟨a3, c3, rfl⟩ := hO3.shape
  change Hid (ItmAt w3 7 3 0 nilS (.slice a3 3 c3) F) at HIt
  change wpList _ _ _ _ (Act.put _ _ (.slice a3 3 c3)) _
  clear hO3 hg3 hB3 HX3 HS3 HX0 HS0 HQ0 HU0 HZ0 hz
  go_wp2_with fail
  refine (Encode_short HIt.out (by omega) HFl.out).mono ?_
  rintro e w4 ⟨v4, rfl, hO4, hU4⟩
  have HO4 := hid hO4.seq
  have HZ4 := hid (HZ3.out.up hU4)
  have HU4 := hid (HU3.out.trans hU4)
  clear hO4 hU4 HZ3 HU3 HIt
  go_wp2_with fail
  refine (HTg.out _ _ HU4.out HO4.out).mono ?_
  rintro e w5 ⟨rfl, hU5⟩
  have HZ5 := hid (HZ4.out.up hU5)
  have HU5 := hid (HU4.out.trans hU5)
  clear hU5 HZ4 HU4 HO4
  unfold hashV
  go_wp2_with (first | (refine wpList_store_rowTo rfl 28 _ _ rfl rfl o1 (arrK .u8 R 32) rfl rfl 28 (arrK .u8 (fun _ => 0) 32) HZ5.out (by rw [arrK_size]; kernel_rfl) (by rw [arrK_size, arrK_size]) arrK_one ?_))
  refine bodyPost_ret (v := .tuple #[.agg (arrK .u8 R 32), .int .i64 0]) (results_row_tmp Tryd.results79 _ _ o1 28 _ (0, 0) _ (by rfl) (HZ5.out.row _) Tryd.underlying28 rfl (by rw [arrK_size]; kernel_rfl)) rfl ⟨rfl, HU5.out.setRow (by have := HO.out; have := HO1.out; omega) _⟩

theorem thash_none (tag : ByteArray) (h : Nat → Int) (c : Int) (s : ByteArray) (w : World) (hT : TabS w) (hB : Byt h) (ht0 : 1 ≤ tag.size) (ht1 : tag.size ≤ 100) (hs : Lab s) :
    Calls Tryd.prog 79 #[.string tag, drw h c, .string s, nilS] w fun e w' => e = .returned (.tuple #[hashV (tagB (txt tag) (frameE h (txt s) [])), .int .i64 0]) ∧ Up w w' := by
  obtain ⟨F, hF⟩ : ∃ F, frameE h (txt s) [] = F := ⟨_, rfl⟩
  have HF : Hid (F = encList [encBytes (hList h), encBytes (txt s)]) := hid hF.symm
  have hFl : F.length ≤ 16384 := by rw [← hF, frameE_length, txt_length]; have := hs.max; simp; omega
  have hFb : ∀ x ∈ F, 0 ≤ x ∧ x ≤ 255 := by
    rw [← hF]
    exact frameE_byt hB (txt_byt s) (fun e he => by
      simp at he)
  have HTg := hid (fun w' (v' : Value) (hU : Up w w') (hv' : SeqAt .u8 w' v' F) => Tagged_any tag v' F w' (hT.up hU) ht0 ht1 hv' (by omega) hFb)
  rw [hF]
  generalize tagB (txt tag) F = R at *
  have HL := hid hs
  have HBh := hid hB
  have HFl := hid hFl
  have hget := fun i (hi : i < 32) => drwA_get h c hi
  have HG := hid hget
  have d2 : s.size ≤ 24 := hs.max
  have hcv := fun w' => run_bytes_of_string (P := Tryd.prog) w' 9 50 5 s Tryd.underlying9 Tryd.underlying50 Tryd.underlying5
  unfold drw
  generalize drwA h c = cs at *
  clear hT hB ht0 ht1 hs hF hFl hFb hget
  obtain ⟨o, ho⟩ : ∃ o, w.heap.size = o := ⟨_, rfl⟩
  have HO := hid ho
  obtain ⟨o1, ho1⟩ : ∃ o1, o + 1 = o1 := ⟨_, rfl⟩
  have HO1 := hid ho1
  obtain ⟨o2, ho2⟩ : ∃ o2, o1 + 1 = o2 := ⟨_, rfl⟩
  have HO2 := hid ho2
  obtain ⟨o3, ho3⟩ : ∃ o3, o2 + 1 = o3 := ⟨_, rfl⟩
  have HO3 := hid ho3
  clear ho ho1 ho2 ho3
  go_enter Tryd.func79, Tryd.ntmps79
  go_wp2_with (at_builtin; refine stopHere ?_)
  clear hcv
  unfold Hid
  generalize hcp : grownCap _ _ _ _ = cp
  generalize hW : World.alloc _ _ = w0
  have hc0 : s.size ≤ cp := by rw [← hcp]; exact cap_ge
  have hc1 : cp ≤ 9223372036854775807 := by rw [← hcp]; exact cap_le (by omega)
  have HU0 : Hid (Up w w0.drew) := hid (by rw [← hW]; exact (((((Up.refl w).alloc _).alloc _).alloc _).alloc _).drew)
  have HS0 : Hid (Blk w0.drew o 108 cs) := hid (by rw [← hW]; exact ((((Blk.new HO.out rfl).alloc _).alloc _).alloc _).up (Up.refl _).drew)
  have HZ0 : Hid (Blk w0.drew o1 28 (arrK .u8 (fun _ => 0) 32)) := hid (by rw [← hW]; exact (((Blk.new (by have := HO.out; have := HO1.out; simp; omega) zero32h).alloc _).alloc _).up (Up.refl _).drew)
  have HX0 : Hid (SeqAt .u8 w0.drew (.slice (some ⟨o2, 0, none⟩) s.size cp) (txt s)) := hid (by
    rw [← hW]
    have h := seq_text ((w.alloc (.cells cs 108)).alloc (.cells #[.int .u8 0, .int .u8 0, .int .u8 0, .int .u8 0, .int .u8 0, .int .u8 0, .int .u8 0, .int .u8 0, .int .u8 0, .int .u8 0, .int .u8 0, .int .u8 0, .int .u8 0, .int .u8 0, .int .u8 0, .int .u8 0, .int .u8 0, .int .u8 0, .int .u8 0, .int .u8 0, .int .u8 0, .int .u8 0, .int .u8 0, .int .u8 0, .int .u8 0, .int .u8 0, .int .u8 0, .int .u8 0, .int .u8 0, .int .u8 0, .int .u8 0, .int .u8 0] 28)) s cp 5 ((bytesRow s cp).size, (bytesRow s cp).size + 1) hc0 hc1
    rw [show ((w.alloc (.cells cs 108)).alloc (.cells #[.int .u8 0, .int .u8 0, .int .u8 0, .int .u8 0, .int .u8 0, .int .u8 0, .int .u8 0, .int .u8 0, .int .u8 0, .int .u8 0, .int .u8 0, .int .u8 0, .int .u8 0, .int .u8 0, .int .u8 0, .int .u8 0, .int .u8 0, .int .u8 0, .int .u8 0, .int .u8 0, .int .u8 0, .int .u8 0, .int .u8 0, .int .u8 0, .int .u8 0, .int .u8 0, .int .u8 0, .int .u8 0, .int .u8 0, .int .u8 0, .int .u8 0, .int .u8 0] 28)).heap.size = o2 by have := HO.out; have := HO1.out; have := HO2.out; simp; omega] at h
    exact (h.up ((Up.refl _).alloc _)).up (Up.refl _).drew)
  have HQ0 : Hid (OwnQ 53 w0.drew o3 (.slice (some ⟨o3, 0, none⟩) 2 2) (frQ o o2 s.size cp)) := hid (by
    rw [← hW, HO.out, HO1.out, HO2.out]
    exact (own_two (by have := HO.out; have := HO1.out; have := HO2.out; have := HO3.out; simp; omega) (Nat.le_refl _)).up (Up.refl _).drew)
  rw [HO.out, HO1.out, HO2.out, HO3.out]
  clear hcp hW
  have hz : o3 ≤ w0.drew.heap.size := by have := OwnQ.inside HQ0.out o3 rfl; omega
  generalize w0.drew = w1 at *
  refine wp_appQ_none infoItm Tryd.underlying51 rfl _ _ rfl o3 rfl HQ0.out rfl ?_
  have HIt : Hid (ItmAt w1 7 3 0 nilS (.slice (some ⟨o3, 0, none⟩) 2 2) F) := hid (by
    rw [HF.out]
    exact itm_list (HQ0.out.row (frQ_at HS0.out HG.out HBh.out HX0.out d2)) (by simp))
  have HU3 := HU0
  have HZ3 := HZ0
  clear HX0 HS0 HQ0 HU0 HZ0 hz
  go_wp2_with fail
  refine (Encode_short HIt.out (by omega) HFl.out).mono ?_
  rintro e w4 ⟨v4, rfl, hO4, hU4⟩
  have HO4 := hid hO4.seq
  have HZ4 := hid (HZ3.out.up hU4)
  have HU4 := hid (HU3.out.trans hU4)
  clear hO4 hU4 HZ3 HU3 HIt
  go_wp2_with fail
  refine (HTg.out _ _ HU4.out HO4.out).mono ?_
  rintro e w5 ⟨rfl, hU5⟩
  have HZ5 := hid (HZ4.out.up hU5)
  have HU5 := hid (HU4.out.trans hU5)
  clear hU5 HZ4 HU4 HO4
  unfold hashV
  go_wp2_with (first | (refine wpList_store_rowTo rfl 28 _ _ rfl rfl o1 (arrK .u8 R 32) rfl rfl 28 (arrK .u8 (fun _ => 0) 32) HZ5.out (by rw [arrK_size]; kernel_rfl) (by rw [arrK_size, arrK_size]) arrK_one ?_))
  refine bodyPost_ret (v := .tuple #[.agg (arrK .u8 R 32), .int .i64 0]) (results_row_tmp Tryd.results79 _ _ o1 28 _ (0, 0) _ (by rfl) (HZ5.out.row _) Tryd.underlying28 rfl (by rw [arrK_size]; kernel_rfl)) rfl ⟨rfl, HU5.out.setRow (by have := HO.out; have := HO1.out; omega) _⟩

end Go.Proofs.YtkimojconidhlaaDoor
namespace Go.Proofs.YtkimojconidhlaaDoor
open Go.RowKit Go.Sp
set_option maxHeartbeats 2000000
set_option maxRecDepth 20000

/-- What Next returns. -/
def nxtV (h : Nat → Int) (c q : Int) : Value :=
  if chkE c q 1 2305843009213693951 = 0 then .tuple #[bif (numT h q 256 c 0).2.2 then drw zeroH 0 else drw h (numT h q 256 c 0).2.1, .int .i64 (numT h q 256 c 0).1, .int .i64 (bif (numT h q 256 c 0).2.2 then 5 else 0)]
  else .tuple #[drw zeroH 0, .int .i64 0, .int .i64 (chkE c q 1 2305843009213693951)]

theorem chk_iff {c n lo hi : Int} : chkE c n lo hi = 0 ↔ (0 ≤ c ∧ c ≤ 1099511627776) ∧ lo ≤ n ∧ n ≤ hi := by
  unfold chkE
  rw [← dvB_iff]
  by_cases h1 : dvB c = true
  · by_cases h2 : lo ≤ n ∧ n ≤ hi
    · simp [h1, h2]
    · simp [h1, h2]
  · simp [h1]

theorem Up.grownNew {w w1 w2 : World} {b : Nat} (hU : Up w w1) (hg : w1.grownBy w2 (some b)) (hb : w.heap.size ≤ b) : Up w w2 :=
  Below.grown hU.below hg hU.size (fun k hk => by simp at hk; omega)

theorem Next_any (h : Nat → Int) (c q : Int) (w : World) (hT : TabS w) (hB : Byt h) :
    Calls Tryd.prog 42 #[drw h c, .int .i64 q] w fun e w' => e = .returned (nxtV h c q) ∧ Up w w' := by
  have HT := hid hT
  have HB := hid hB
  obtain ⟨E, hE⟩ : ∃ E, chkE c q 1 2305843009213693951 = E := ⟨_, rfl⟩
  have HE := hid hE
  obtain ⟨V, hV⟩ : ∃ V, nxtV h c q = V := ⟨_, rfl⟩
  have HV := hid hV
  rw [hV]
  clear hT hB hV
  have HC := hid (fun w' => check_draw_any h c q 1 2305843009213693951 w')
  rw [hE] at HC
  clear hE
  unfold drw at HC ⊢
  go_enter Tryd.func42, Tryd.ntmps42
  have hB0 := Blk.new (w := w) (t := 30) (cs := drwA h c) rfl rfl
  have hB1 := Blk.new (w := w.alloc (.cells (drwA h c) 30)) (t := 30) (g := w.heap.size + 1) (by simp) zero33
  go_wp2_with (refine wpList_load_row rfl 30 _ rfl w.heap.size rfl 30 (drwA h c) (0, 0) _ (hB0.alloc _) Tryd.underlying30 rfl (sizeDrw _ _) ?_)
  refine (HC.out _).mono ?_
  rintro e w1 ⟨rfl, hU1⟩
  have HB0 := hid ((hB0.alloc _).up hU1)
  have HB1 := hid (hB1.up hU1)
  have HU1 := hid ((((Up.refl w).alloc _).alloc _).trans hU1)
  clear hU1 hB0 hB1 HC
  by_cases h0 : E = 0
  case neg =>
    have d1 : (E != 0) = true := by simpa using h0
    have HVr : Hid (V = .tuple #[drw zeroH 0, .int .i64 0, .int .i64 E]) := hid (by rw [← HV.out, nxtV, HE.out, if_neg h0])
    clear h0
    obtain ⟨o, ho⟩ : ∃ o, w.heap.size + 1 = o := ⟨_, rfl⟩
    have HOo := hid ho
    rw [ho] at HB1
    rw [ho]
    clear ho
    go_wp2_with (refine wpList_store_rowTo rfl 30 _ _ rfl rfl o (drwA zeroH 0) ?_ ?_ 30 (drwA zeroH 0) ?_ ?_ ?_ ?_ ?_)
    · rfl
    · exact (congrArg Value.agg zero33)
    · exact HB1.out
    · exact sizeDrw _ _
    · rfl
    · exact drwA_one _ _
    refine bodyPost_ret (v := .tuple #[.agg (drwA zeroH 0), .int .i64 0, .int .i64 E]) (results_row_tmp2 Tryd.results42 _ _ o 30 _ (0, 0) _ (by rfl) (HB1.out.row _) Tryd.underlying30 rfl (sizeDrw _ _)) rfl ⟨by rw [HVr.out]; rfl, HU1.out.setRow (by have := HOo.out; omega) _⟩
  have hk := chk_iff.1 (HE.out.trans h0)
  have HK := hid hk
  have HVr : Hid (V = .tuple #[bif (numT h q 256 c 0).2.2 then drw zeroH 0 else drw h (numT h q 256 c 0).2.1, .int .i64 (numT h q 256 c 0).1, .int .i64 (bif (numT h q 256 c 0).2.2 then 5 else 0)]) := hid (by rw [← HV.out, nxtV, if_pos (HE.out.trans h0)])
  subst h0
  clear hk HE HV
  go_wp2_with (first
    | (refine wpList_load_row rfl 30 _ rfl w.heap.size rfl 30 (drwA h c) (0, 0) _ HB0.out Tryd.underlying30 rfl (sizeDrw _ _) ?_)
    | (refine wpList_buildTo rfl 120 _ rfl _ rfl (srcA h c false) (by kernel_rfl) ?_))
  refine (number_any h c false q w1.heap.size _ ((HT.out.up HU1.out).up ((Up.refl _).alloc _)) HB.out (Blk.new rfl rfl) HK.out.1.1 HK.out.1.2 (fun h => by cases h) HK.out.2.1 HK.out.2.2).mono ?_
  rintro e w2 ⟨rfl, hS2, hg2⟩
  have l0 := HB0.out.lt
  have l1 := HB1.out.lt
  have HB2 := hid (Blk.grownOut (HB0.out.alloc (.cells (srcA h c false) 120)) hg2 (by omega))
  have HZ2 := hid (Blk.grownOut (HB1.out.alloc (.cells (srcA h c false) 120)) hg2 (by omega))
  have HU2 := hid (Up.grownNew (HU1.out.alloc (.cells (srcA h c false) 120)) hg2 (by omega))
  have HS2 := hid hS2
  generalize (numT h q 256 c 0).1 = n at *
  generalize (numT h q 256 c 0).2.1 = c2 at *
  generalize (numT h q 256 c 0).2.2 = F at *
  obtain ⟨D, hD, hD1, hD2⟩ : ∃ D, (bif F then drw zeroH 0 else drw h c2) = .agg D ∧ D.size = 33 ∧ D.all (·.oneCell') = true := by
    cases F with
    | true => exact ⟨_, rfl, drwA_size _ _, drwA_one _ _⟩
    | false => exact ⟨_, rfl, drwA_size _ _, drwA_one _ _⟩
  have HR := hid (fun w' hb => result_any h c2 F w1.heap.size w' hb)
  rw [hD] at HVr HR
  have hD3 : (Tryd.prog.info? 30).map (·.size) = some D.size := by rw [hD1]; kernel_rfl
  have HD1 := hid hD1
  have HD2 := hid hD2
  have HD3 := hid hD3
  obtain ⟨f, hf⟩ : ∃ f : Int, (bif F then 5 else 0) = f := ⟨_, rfl⟩
  rw [hf] at HVr HR
  obtain ⟨o, ho⟩ : ∃ o, w.heap.size = o := ⟨_, rfl⟩
  have HOo := hid ho
  rw [ho] at HB2 HZ2
  rw [ho]
  clear hS2 hg2 l0 l1 hD hD1 hD2 hD3 hf HB0 HB1 ho
  go_wp2_with fail
  refine (HR.out _ HS2.out).mono ?_
  rintro e w3 ⟨rfl, hU3⟩
  have HB3 := hid (HB2.out.up hU3)
  have HZ3 := hid (HZ2.out.up hU3)
  have HU3 := hid (HU2.out.trans hU3)
  clear hU3 HB2 HZ2 HU2 HS2 HR
  go_wp2_with (first
    | (refine wpList_store_rowTo rfl 30 _ _ rfl rfl o D rfl rfl 30 (drwA h c) HB3.out HD3.out (by rw [HD1.out, drwA_size]) HD2.out ?_)
    | (refine wpList_load_row rfl 30 _ rfl o rfl 30 D (0, 0) _ (HB3.out.row _) Tryd.underlying30 rfl HD3.out ?_)
    | (refine wpList_store_rowTo rfl 30 _ _ rfl rfl (o + 1) D rfl rfl 30 (drwA zeroH 0) (HZ3.out.rowApart (by omega) _) HD3.out (by rw [HD1.out, drwA_size]) HD2.out ?_))
  refine bodyPost_ret (v := .tuple #[.agg D, .int .i64 n, .int .i64 f]) (results_row_tmp2 Tryd.results42 _ _ (o + 1) 30 _ (0, 0) _ (by rfl) ((HZ3.out.rowApart (by omega) _).row _) Tryd.underlying30 rfl HD3.out) rfl ⟨by rw [HVr.out], (HU3.out.setRow (by have := HOo.out; omega) _).setRow (by have := HOo.out; omega) _⟩
end Go.Proofs.YtkimojconidhlaaDoor
