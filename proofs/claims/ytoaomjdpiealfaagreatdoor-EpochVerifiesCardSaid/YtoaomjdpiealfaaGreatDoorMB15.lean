/- Restrictive signatures: unblinding, in the program and in the reference. A region that draws its order and ends in a store: what the loads read is kept as far as the last operation, which waits for all others. Over any program. Package restrict: the challenge of a coin. Package transcript: labels; the frame that is hashed. Package transcript: the hash of a frame. -/
import Derived.Test.YtoaomjdpiealfaaGreatDoorMB14
import Derived.Test.YtoaomjdpiealfaaGreatDoorMB7
import Derived.Test.YtoaomjdpiealfaaGreatDoorMB9
import Derived.Test.YtoaomjdpiealfaaGreatDoorMB10
import Derived.Deep.RegionHeld3
import Derived.Deep.RegionLaw
import Derived.Deep.DrawnRows
namespace Go.Proofs.YtoaomjdpiealfaaGreatDoor
open Go.RowKit Go.Sp
set_option maxHeartbeats 2000000
set_option maxRecDepth 20000

/-- A signature as a value. -/
abbrev sgn (a b c d : Int) : Value := .agg #[.int .i64 a, .int .i64 b, .int .i64 c, .int .i64 d]
/-- The error of unblinding. -/
def unE (P Q G A B C k1 k2 k3 m z x y c r s u v : Int) : Int := if kvB P Q G A B C k1 k2 k3 = true then (if facB Q s u v = true then (if cvB P Q G A B C k1 k2 k3 m z x y c r = true then 0 else 11) else 2) else 1

theorem up_eq {a b : World} (h : a = b) : Up a b := h ▸ Up.refl _
theorem blk_four {w : World} {b : Nat} {t : TypeId} {p q e d : Value} (h : Blk w b t #[p, q, e, d]) (x y z u : Value) : Blk ((((w.setCell ⟨b, 0, none⟩ x).setCell ⟨b, 1, none⟩ y).setCell ⟨b, 2, none⟩ z).setCell ⟨b, 3, none⟩ u) b t #[x, y, z, u] :=
  (((h.wrote 0 x).wrote 1 y).wrote 2 z).wrote 3 u

/-- The boxes of Unblind. -/
def UnbAt (w : World) (o : Nat) (P Q G A B C k1 k2 k3 m z x y c r sz sa sb sr s u v : Int) : Prop :=
  ViewsAt w o P Q G A B C k1 k2 k3 m z x y c r ∧ Blk w (o + 3) 57 #[.int .i64 sz, .int .i64 sa, .int .i64 sb, .int .i64 sr] ∧ GrpAt w (o + 4) s u v
theorem UnbAt.up {w w' : World} {o : Nat} {P Q G A B C k1 k2 k3 m z x y c r sz sa sb sr s u v : Int} (h : UnbAt w o P Q G A B C k1 k2 k3 m z x y c r sz sa sb sr s u v) (hU : Up w w') : UnbAt w' o P Q G A B C k1 k2 k3 m z x y c r sz sa sb sr s u v := ⟨h.1.up hU, h.2.1.up hU, h.2.2.up hU⟩
theorem unb_new {w : World} {o : Nat} {P Q G A B C k1 k2 k3 m z x y c r sz sa sb sr s u v : Int} (ho : w.heap.size = o) :
    UnbAt (((((w.alloc (.cells #[.int .i64 P, .int .i64 Q, .int .i64 G, .int .i64 A, .int .i64 B, .int .i64 C] 49)).alloc (.cells #[.int .i64 k1, .int .i64 k2, .int .i64 k3] 51)).alloc (.cells #[.int .i64 m, .int .i64 z, .int .i64 x, .int .i64 y, .int .i64 c, .int .i64 r] 53)).alloc (.cells #[.int .i64 sz, .int .i64 sa, .int .i64 sb, .int .i64 sr] 57)).alloc (.cells #[.int .i64 s, .int .i64 u, .int .i64 v] 59)) o P Q G A B C k1 k2 k3 m z x y c r sz sa sb sr s u v :=
  ⟨(views_new ho).up (((Up.refl _).alloc _).alloc _), (Blk.new (by simp [ho]) rfl).alloc _, nums_three (by simp [ho])⟩
/-- The boxes of Unblind, and its result. -/
def ResAt (w : World) (o : Nat) (P Q G A B C k1 k2 k3 m z x y c r sz sa sb sr s u v : Int) : Prop := UnbAt w o P Q G A B C k1 k2 k3 m z x y c r sz sa sb sr s u v ∧ Blk w (o + 5) 57 #[.int .i64 0, .int .i64 0, .int .i64 0, .int .i64 0]
theorem ResAt.up {w w' : World} {o : Nat} {P Q G A B C k1 k2 k3 m z x y c r sz sa sb sr s u v : Int} (h : ResAt w o P Q G A B C k1 k2 k3 m z x y c r sz sa sb sr s u v) (hU : Up w w') : ResAt w' o P Q G A B C k1 k2 k3 m z x y c r sz sa sb sr s u v := ⟨h.1.up hU, h.2.up hU⟩

theorem keepC9 {w0 w w' : World} {o : Nat} {P Q G A B C r u v : Int} (hU : Up w w') (h : w.cell? ⟨o, 0, none⟩ = some (.int .i64 P) ∧ w.cell? ⟨o, 1, none⟩ = some (.int .i64 Q) ∧ w.cell? ⟨o, 2, none⟩ = some (.int .i64 G) ∧ w.cell? ⟨o, 3, none⟩ = some (.int .i64 A) ∧ w.cell? ⟨o, 4, none⟩ = some (.int .i64 B) ∧ w.cell? ⟨o, 5, none⟩ = some (.int .i64 C) ∧ w.cell? ⟨o + 2, 5, none⟩ = some (.int .i64 r) ∧ w.cell? ⟨o + 4, 1, none⟩ = some (.int .i64 u) ∧ w.cell? ⟨o + 4, 2, none⟩ = some (.int .i64 v) ∧ Hid (Up w0 w)) :
    w'.cell? ⟨o, 0, none⟩ = some (.int .i64 P) ∧ w'.cell? ⟨o, 1, none⟩ = some (.int .i64 Q) ∧ w'.cell? ⟨o, 2, none⟩ = some (.int .i64 G) ∧ w'.cell? ⟨o, 3, none⟩ = some (.int .i64 A) ∧ w'.cell? ⟨o, 4, none⟩ = some (.int .i64 B) ∧ w'.cell? ⟨o, 5, none⟩ = some (.int .i64 C) ∧ w'.cell? ⟨o + 2, 5, none⟩ = some (.int .i64 r) ∧ w'.cell? ⟨o + 4, 1, none⟩ = some (.int .i64 u) ∧ w'.cell? ⟨o + 4, 2, none⟩ = some (.int .i64 v) ∧ Hid (Up w0 w') :=
  ⟨cellUp hU h.1, cellUp hU h.2.1, cellUp hU h.2.2.1, cellUp hU h.2.2.2.1, cellUp hU h.2.2.2.2.1, cellUp hU h.2.2.2.2.2.1, cellUp hU h.2.2.2.2.2.2.1, cellUp hU h.2.2.2.2.2.2.2.1, cellUp hU h.2.2.2.2.2.2.2.2.1, hid (h.2.2.2.2.2.2.2.2.2.out.trans hU)⟩
theorem keepC9Store {w0 w w' : World} {o : Nat} {P Q G A B C r u v : Int} {t : Value} (hb : w0.heap.size ≤ o) (hw : w' = w.setCell ⟨o + 3, 3, none⟩ t) (h : w.cell? ⟨o, 0, none⟩ = some (.int .i64 P) ∧ w.cell? ⟨o, 1, none⟩ = some (.int .i64 Q) ∧ w.cell? ⟨o, 2, none⟩ = some (.int .i64 G) ∧ w.cell? ⟨o, 3, none⟩ = some (.int .i64 A) ∧ w.cell? ⟨o, 4, none⟩ = some (.int .i64 B) ∧ w.cell? ⟨o, 5, none⟩ = some (.int .i64 C) ∧ w.cell? ⟨o + 2, 5, none⟩ = some (.int .i64 r) ∧ w.cell? ⟨o + 4, 1, none⟩ = some (.int .i64 u) ∧ w.cell? ⟨o + 4, 2, none⟩ = some (.int .i64 v) ∧ Hid (Up w0 w)) :
    w'.cell? ⟨o, 0, none⟩ = some (.int .i64 P) ∧ w'.cell? ⟨o, 1, none⟩ = some (.int .i64 Q) ∧ w'.cell? ⟨o, 2, none⟩ = some (.int .i64 G) ∧ w'.cell? ⟨o, 3, none⟩ = some (.int .i64 A) ∧ w'.cell? ⟨o, 4, none⟩ = some (.int .i64 B) ∧ w'.cell? ⟨o, 5, none⟩ = some (.int .i64 C) ∧ w'.cell? ⟨o + 2, 5, none⟩ = some (.int .i64 r) ∧ w'.cell? ⟨o + 4, 1, none⟩ = some (.int .i64 u) ∧ w'.cell? ⟨o + 4, 2, none⟩ = some (.int .i64 v) ∧ Hid (Up w0 w') := by
  subst hw
  have key : ∀ k i, k ≠ o + 3 → (w.setCell ⟨o + 3, 3, none⟩ t).cell? ⟨k, i, none⟩ = w.cell? ⟨k, i, none⟩ := fun k i hk => by
    rw [World.cell?_setCell_other]; exact fun h => hk (congrArg Addr.block h).symm
  exact ⟨(key _ _ (by omega)).trans h.1, (key _ _ (by omega)).trans h.2.1, (key _ _ (by omega)).trans h.2.2.1, (key _ _ (by omega)).trans h.2.2.2.1, (key _ _ (by omega)).trans h.2.2.2.2.1, (key _ _ (by omega)).trans h.2.2.2.2.2.1, (key _ _ (by omega)).trans h.2.2.2.2.2.2.1, (key _ _ (by omega)).trans h.2.2.2.2.2.2.2.1, (key _ _ (by omega)).trans h.2.2.2.2.2.2.2.2.1, hid (h.2.2.2.2.2.2.2.2.2.out.setCell (show w0.heap.size ≤ o + 3 by omega) _)⟩
theorem up9 {w1 w : World} {a b c d e f g h i : Prop} (hs : a ∧ b ∧ c ∧ d ∧ e ∧ f ∧ g ∧ h ∧ i ∧ Hid (Up w1 w)) : Up w1 w := hs.2.2.2.2.2.2.2.2.2.out

end Go.Proofs.YtoaomjdpiealfaaGreatDoor
namespace Go.Sp
open Go.RowKit

section
variable {P : Program} {ops : Array Oper} {Q : Exit → Act → World → Prop} {S : World → Prop} {last : Nat}

/-- Whatever comes up next, S holds behind it, but behind the last operation. -/
def anyE (P : Program) (ops : Array Oper) (Q : Exit → Act → World → Prop) (S : World → Prop) (last : Nat) : Nat → Array Bool → Act → World → Prop
  | 0, listed, a, w => Region.ready .any ops listed = [] ∧ Q .normal a w
  | n + 1, listed, a, w => (Region.ready .any ops listed = [] → Q .normal a w) ∧ ∀ j ∈ Region.ready .any ops listed, wpOp P ops Q j (fun b u => (j = last ∨ S u) ∧ anyE P ops Q S last n (listed.setIfInBounds j true) b u) a w

theorem any_of_E : ∀ (n : Nat) (listed : Array Bool) (a : Act) (w : World), anyE P ops Q S last n listed a w → wpAny P .any ops Q n listed a w
  | 0, _, _, _, h => h
  | n + 1, _, _, _, h => ⟨h.1, fun j hj => wpOp_mono (fun b u k => any_of_E n _ b u k.2) (h.2 j hj)⟩

/-- The last operation waits for all others. -/
def endB (ops : Array Oper) (last : Nat) : Bool := (List.range ops.size).all fun i => i == last || (match ops[last]? with | some o => o.after.any fun e => Region.binds .any e && e.on == i | none => false)

theorem end_spec (h : endB ops last = true) {listed : Array Bool} (hr : last ∈ Region.ready .any ops listed) {i : Nat} (hi : i < ops.size) (hne : i ≠ last) : listed.getD i false = true := by
  have h1 := List.all_eq_true.1 h i (List.mem_range.2 hi)
  obtain ⟨_, o, ho, hall⟩ := mem_ready.1 hr
  simp only [ho, Bool.or_eq_true, beq_iff_eq] at h1
  rcases h1 with h1 | h1
  · exact absurd h1 hne
  · obtain ⟨e, he, hb⟩ := Array.any_eq_true'.1 h1
    simp only [Bool.and_eq_true, beq_iff_eq] at hb
    rw [← hb.2]
    exact hall e he hb.1

theorem unlisted {listed : Array Bool} {i : Nat} (h : listed.getD i true = false) : listed.getD i false = false := by
  by_cases hi : i < listed.size
  · simp [hi] at h ⊢; exact h
  · simp [hi] at h

/-- What yields under S may be taken first. -/
theorem anyE_take {i : Nat} {o : Oper} {v : Value} (d : Tmp) (ho : ops[i]? = some o) (hd : o.dst = some d) (hs : Region.noSelect ops = true) (he : endB ops last = true) (hil : i ≠ last) (hQ : ∀ c a w, Q (.panic c) (a.put (some d) v) w → Q (.panic c) a w) :
    ∀ {n : Nat} {listed : Array Bool} {a : Act} {w : World}, Region.free .any ops listed i = true → (Region.ready .any ops listed).contains i = true → YieldsIf P ops S o v a → S w →
      anyE P ops Q S last n (listed.setIfInBounds i true) (a.put (some d) v) w → anyE P ops Q S last (n + 1) listed a w := by
  rw [← hd] at hQ ⊢
  have hsz : i < ops.size := (Array.getElem?_eq_some_iff.1 ho).1
  intro n
  have key : ∀ (n : Nat) (listed : Array Bool) (a : Act) (w : World), (∀ j oj, ops[j]? = some oj → j ≠ i → listed.getD j true = false → (∀ e ∈ oj.after, Region.binds .any e = true → e.on ≠ i) → o.apart ops oj = true) → i ∈ Region.ready .any ops listed → YieldsIf P ops S o v a → S w →
      anyE P ops Q S last n (listed.setIfInBounds i true) (a.put o.dst v) w → anyE P ops Q S last (n + 1) listed a w := by
    intro n
    induction n with
    | zero =>
      intro listed a w _ hr hy hS h
      refine ⟨fun h0 => absurd hr (by rw [h0]; simp), fun j hj => ?_⟩
      by_cases hji : j = i
      · subst hji
        exact hy.wpOp ho hS ⟨.inr hS, h⟩
      · exact absurd (ready_mono hj hji) (by rw [h.1]; simp)
    | succ n ih =>
      intro listed a w hf hr hy hS h
      refine ⟨fun h0 => absurd hr (by rw [h0]; simp), fun j hj => ?_⟩
      by_cases hji : j = i
      · subst hji
        exact hy.wpOp ho hS ⟨.inr hS, h⟩
      have hun := (mem_ready.1 hr).1
      have hjl : j ≠ last := fun hl => by
        subst hl
        have := end_spec he hj hsz (fun h => hil h)
        rw [unlisted hun] at this
        cases this
      obtain ⟨hju, oj, hoj, hall⟩ := mem_ready.1 hj
      have hno : ∀ e ∈ oj.after, Region.binds .any e = true → e.on ≠ i := fun e hm hb hx => by
        have := hall e hm hb
        rw [hx, unlisted hun] at this
        cases this
      have hstep := wpOp_putIf hoj (hf j oj hoj hji hju hno) (fun cs b => Region.noSelect_spec hs i o cs b ho) (fun cs b => Region.noSelect_spec hs j oj cs b hoj) hQ hy (h.2 j (ready_mono hj hji))
      refine wpOp_mono (fun b u k => ?_) hstep
      obtain ⟨hy2, hSu, hrest⟩ := k
      have hSu' : S u := by
        rcases hSu with hSu | hSu
        · exact absurd hSu hjl
        · exact hSu
      refine ⟨.inr hSu', ih _ b u (fun k ok hk hki hku hkn => hf k ok hk hki ?_ hkn) (ready_mono hr (Ne.symm hji)) hy2 hSu' ?_⟩
      · by_cases hjk : j = k
        · subst hjk; exact hju
        · rw [getD_set_ne true hjk] at hku; exact hku
      · rw [Array.setIfInBounds_comm _ _ hji]
        exact hrest
  intro listed a w hf hr hy hS h
  exact key n listed a w (fun j oj h1 h2 h3 h4 => Region.free_spec ho hf j oj h1 h2 h3 h4) (by simpa using hr) hy hS h

/-- One alone may come up. -/
theorem anyE_one {i : Nat} {o : Oper} {n : Nat} {listed : Array Bool} {a : Act} {w : World} (ho : ops[i]? = some o) (hr : Region.ready .any ops listed = [i]) (hg : o.guard = none)
    (h : ∀ K : Act → World → Prop, Hid (∀ b u, (i = last ∨ S u) → anyE P ops Q S last n (listed.setIfInBounds i true) b u → K b u) → o.wp P a w K Q) : anyE P ops Q S last (n + 1) listed a w := by
  refine ⟨fun h0 => (by rw [hr] at h0; cases h0), fun j hj => ?_⟩
  rw [hr] at hj
  obtain rfl : j = i := by simpa using hj
  unfold wpOp
  simp only [ho]
  rw [if_pos (by simp [Region.wanted, hg])]
  exact .inl (h _ (hid fun b u hS k => ⟨hS, k⟩))

theorem anyE_done {listed : Array Bool} {a : Act} {w : World} (hr : Region.ready .any ops listed = []) (h : Q .normal a w) : ∀ n, anyE P ops Q S last n listed a w
  | 0 => ⟨hr, h⟩
  | _ + 1 => ⟨fun _ => h, by rw [hr]; simp⟩

theorem region_E {id : Nat} {a : Act} {w : World} (S : World → Prop) (last : Nat) (hm : P.follows .mixedOrders = true) (hS : S w.drew) (h : S w.drew → anyE P ops Q S last ops.size (Array.replicate ops.size false) a w.drew) : (Code.region id ops true).wp P Q a w :=
  wp_region_any hm (any_of_E _ _ _ _ (h hS))
end
end Go.Sp
namespace Go.Proofs.YtoaomjdpiealfaaGreatDoor
open Go.RowKit Go.Sp
set_option maxHeartbeats 4000000
set_option maxRecDepth 20000

theorem infoItm : (Tryz.prog.info? 142).map (fun i => (i.zero, i.size, i.bytes)) = some (some (.agg #[.int .i64 0, .int .i64 0, nilS, nilS]), 4, 64) := by kernel_rfl

theorem resNumber_any (n : Int) (w : World) : Calls Tryz.prog 99 #[.int .i64 n] w fun e w' => e = .returned (itm 1 n nilS nilS) ∧ Up w w' := by
  go_enter Tryz.func99, Tryz.ntmps99
  go_wp2
  exact bodyPost_ret (v := itm 1 n nilS nilS) (by simp [results, Tryz.results99, go_sem]) rfl ⟨rfl, (Up.refl w).alloc _⟩

/-- The seven numbers of bases and a pseudonym. -/
def nums7 (P Q G A B C p : Int) : List Int := [P, Q, G, A, B, C, p]
def quadI (n : Int) : Quad := ⟨1, n, nilS, nilS⟩
theorem quadI_at (w : World) (d : Nat) (l : List Int) : QuadAt w d (l.map quadI) (l.map encInt) := by
  refine ⟨by simp, fun i hi => ?_⟩
  have hi' : i < l.length := by simpa using hi
  have e : (l.map encInt).getD i [] = encInt l[i] := by
    rw [List.getD_eq_getElem?_getD, List.getElem?_map, List.getElem?_eq_getElem hi']
    rfl
  rw [e]
  simp only [List.getElem_map, quadI]
  exact itm_int w _ d

/-- The text ahead of a coin's encoding. -/
def coinTag : ByteArray := { data := #[115, 112, 101, 99, 105, 101, 47, 99, 111, 105, 110] }
theorem coinTag_txt : txt coinTag = tagCoin := by decide

/-- The error of a challenge. -/
def chlE (P Q G A B C p z a b : Int) : Int := if bvB P Q G A B C = true then (if [p, z, a, b].all (elB P Q) = true then 0 else 2) else 1
def chlV (P Q G A B C p : Int) (root : Nat → Int) (z a b : Int) : Int := if chlE P Q G A B C p z a b = 0 then coinC P Q G A B C p root z a b else 0

/-- What the loads of the last region read. -/
def ChlS (L o : Nat) (ad : Option Addr) (cp : Nat) (z a b r : Int) (w : World) : Prop :=
  Blk w L 142 #[.int .i64 3, .int .i64 0, nilS, .slice ad 7 cp] ∧ Blk w (o + 2) 57 #[.int .i64 z, .int .i64 a, .int .i64 b, .int .i64 r]
theorem ChlS.cells {L o : Nat} {ad : Option Addr} {cp : Nat} {z a b r : Int} {w : World} (h : ChlS L o ad cp z a b r w) :
    w.cell? ⟨L, 3, none⟩ = some (.slice ad 7 cp) ∧ w.cell? ⟨o + 2, 0, none⟩ = some (.int .i64 z) ∧ w.cell? ⟨o + 2, 1, none⟩ = some (.int .i64 a) ∧ w.cell? ⟨o + 2, 2, none⟩ = some (.int .i64 b) :=
  ⟨h.1.val rfl, h.2.val rfl, h.2.val rfl, h.2.val rfl⟩
theorem ChlS.up {L o : Nat} {ad : Option Addr} {cp : Nat} {z a b r : Int} {w w' : World} (h : ChlS L o ad cp z a b r w) (hU : Up w w') : ChlS L o ad cp z a b r w' := ⟨h.1.up hU, h.2.up hU⟩
theorem ChlS.below {L o B : Nat} {ad : Option Addr} {cp : Nat} {z a b r : Int} {w w' : World} (h : ChlS L o ad cp z a b r w) (hb : Below B w w') (h1 : L < B) (h2 : o + 2 < B) : ChlS L o ad cp z a b r w' := ⟨h.1.below hb h1, h.2.below hb h2⟩

/-- The four items behind the seven. -/
def chlQ (o : Nat) (z a b : Int) : List Quad := [⟨2, 0, .slice (some ⟨o, 0, none⟩) 32 32, nilS⟩, quadI z, quadI a, quadI b]
theorem chlQ_cells {w : World} {g o : Nat} {z a b : Int} {t : TypeId} (hg : w.heap.size = g) : ∀ i (h : i < (chlQ o z a b).length), ItmCells (w.alloc (.cells #[.int .i64 2, .int .i64 0, .slice (some ⟨o, 0, none⟩) 32 32, nilS, .int .i64 1, .int .i64 z, nilS, nilS, .int .i64 1, .int .i64 a, nilS, nilS, .int .i64 1, .int .i64 b, nilS, nilS] t)) g (i * 4) (chlQ o z a b)[i].k (chlQ o z a b)[i].n (chlQ o z a b)[i].b (chlQ o z a b)[i].l := by
  intro i h
  have hB : Blk (w.alloc (.cells #[.int .i64 2, .int .i64 0, .slice (some ⟨o, 0, none⟩) 32 32, nilS, .int .i64 1, .int .i64 z, nilS, nilS, .int .i64 1, .int .i64 a, nilS, nilS, .int .i64 1, .int .i64 b, nilS, nilS] t)) g t #[.int .i64 2, .int .i64 0, .slice (some ⟨o, 0, none⟩) 32 32, nilS, .int .i64 1, .int .i64 z, nilS, nilS, .int .i64 1, .int .i64 a, nilS, nilS, .int .i64 1, .int .i64 b, nilS, nilS] := Blk.new hg rfl
  have : i = 0 ∨ i = 1 ∨ i = 2 ∨ i = 3 := by simp [chlQ] at h; omega
  rcases this with rfl | rfl | rfl | rfl <;> exact ⟨hB.val rfl, hB.val rfl, hB.val rfl, hB.val rfl⟩
theorem chlQ_one {o : Nat} {z a b : Int} : ∀ i (h : i < (chlQ o z a b).length), (chlQ o z a b)[i].b.oneCell' = true ∧ (chlQ o z a b)[i].l.oneCell' = true := by
  intro i h
  have : i = 0 ∨ i = 1 ∨ i = 2 ∨ i = 3 := by simp [chlQ] at h; omega
  rcases this with rfl | rfl | rfl | rfl <;> exact ⟨rfl, rfl⟩
theorem chlQ_at {w : World} {o : Nat} {root : Nat → Int} (P Q G A B C p z a b : Int) (hs : SeqAt .u8 w (.slice (some ⟨o, 0, none⟩) 32 32) (hList root)) (hR : Byt root) : QuadAt w 0 ((nums7 P Q G A B C p).map quadI ++ chlQ o z a b) (coinL P Q G A B C p root z a b) := by
  refine QuadAt.app (quadI_at w 0 _) ?_
  refine QuadAt.app (qs := [_]) (es := [_]) (QuadAt.one (itm_bytes hs (by rw [hList_length]; omega) (hList_bytes hR) 0)) ?_
  exact quadI_at w 0 [z, a, b]

theorem ints4_at {w : World} {g : Nat} {x y z u : Int} {t : TypeId} (hg : w.heap.size = g) : IntsAt (w.alloc (.cells #[.int .i64 x, .int .i64 y, .int .i64 z, .int .i64 u] t)) (.slice (some ⟨g, 0, none⟩) 4 4) [x, y, z, u] := by
  subst hg
  exact ints_at (xs := [x, y, z, u]) (by simp) fun i hi => by
    have : i = 0 ∨ i = 1 ∨ i = 2 ∨ i = 3 := by simp at hi; omega
    rcases this with rfl | rfl | rfl | rfl <;> go_simp

theorem resChallenge_any (P Q G A B C p : Int) (root : Nat → Int) (z a b r : Int) (w : World) (hP : -9223372036854775808 ≤ P) (hQ : Q ≤ 9223372036854775807) (hT : Tab w) (hS : TabS w) (hR : Byt root) :
    Calls Tryz.prog 44 #[bas P Q G A B C, .int .i64 p, hashV root, sgn z a b r] w fun e w' => e = .returned (.tuple #[.int .i64 (chlV P Q G A B C p root z a b), .int .i64 (chlE P Q G A B C p z a b)]) ∧ Up w w' := by
  have HT := hid hT
  have HS := hid hS
  have HR := hid hR
  obtain ⟨E, hE⟩ : ∃ E, chlE P Q G A B C p z a b = E := ⟨_, rfl⟩
  obtain ⟨V, hV⟩ : ∃ V, chlV P Q G A B C p root z a b = V := ⟨_, rfl⟩
  have HV : Hid (V = if E = 0 then coinC P Q G A B C p root z a b else 0) := hid (by rw [← hV, chlV, hE])
  have HE : Hid (E = if bvB P Q G A B C = true then (if [p, z, a, b].all (elB P Q) = true then 0 else 2) else 1) := hid hE.symm
  rw [hE, hV]
  clear hT hS hR hE hV
  obtain ⟨cs, hcs⟩ : ∃ cs, arrK .u8 root 32 = cs := ⟨_, rfl⟩
  have HCs := hid hcs
  unfold hashV
  rw [hcs]
  clear hcs
  obtain ⟨o, ho⟩ : ∃ o, w.heap.size = o := ⟨_, rfl⟩
  have HOo := hid ho
  clear ho
  have HX := hid (bas_reads (w := w) (P := P) (Q := Q) (G := G) (A := A) (B := B) (C := C) rfl (((Up.refl (w.alloc (.cells #[.int .i64 P, .int .i64 Q, .int .i64 G, .int .i64 A, .int .i64 B, .int .i64 C] 49))).alloc (.cells cs 55)).alloc (.cells #[.int .i64 z, .int .i64 a, .int .i64 b, .int .i64 r] 57)))
  by_cases hg : bvB P Q G A B C = true
  case neg =>
    have hg' : bvB P Q G A B C = false := by simpa using hg
    have Hg := hid hg'
    have hE : E = 1 := by rw [HE.out, if_neg hg]
    have hV : V = 0 := by rw [HV.out, hE, if_neg (by decide)]
    subst hE hV
    clear hg hg' HE HV
    go_enter Tryz.func44, Tryz.ntmps44
    go_wp2_with fail
    refine (bValid_any P Q G A B C _ hP hQ (HT.out.up ((((Up.refl w).alloc _).alloc _).alloc _))).mono ?_
    rintro e w1 ⟨rfl, hU1⟩
    rw [Hg.out]
    go_wp2
    go_ret2
    exact ⟨rfl, ((((Up.refl w).alloc _).alloc _).alloc _).trans hU1⟩
  have Hg := hid hg
  have g := gv_iff.1 (bv_iff.1 hg).1
  have g1 := g.P61
  have g2 := g.P4
  have g3 := g.Q3
  have g4 := g.QP
  have HE1 : Hid (E = if [p, z, a, b].all (elB P Q) = true then 0 else 2) := hid (by rw [HE.out, if_pos hg])
  clear hg g HE
  go_enter Tryz.func44, Tryz.ntmps44
  go_wp2_with fail
  refine (bValid_any P Q G A B C _ hP hQ (HT.out.up ((((Up.refl w).alloc _).alloc _).alloc _))).mono ?_
  rintro e w1 ⟨rfl, hU1⟩
  rw [Hg.out]
  obtain ⟨⟨c0, c1, c2⟩, c3, c4, c5⟩ := HX.out.up hU1
  have hS1 : Blk w1 (w.heap.size + 2) 57 #[.int .i64 z, .int .i64 a, .int .i64 b, .int .i64 r] := (Blk.new (by simp) rfl).up hU1
  have hR1 : Blk w1 (w.heap.size + 1) 55 cs := ((Blk.new (by simp) rfl).alloc _).up hU1
  have s0 := hS1.val (i := 0) rfl
  have s1 := hS1.val (i := 1) rfl
  have s2 := hS1.val (i := 2) rfl
  have HS1 := hid hS1
  have HR1 := hid hR1
  have l1 := hS1.lt
  have HB1 := hid (HX.out.up hU1)
  have HU1 := hid (((((Up.refl w).alloc _).alloc _).alloc _).trans hU1)
  have ho := HOo.out
  rw [ho] at c0 c1 c2 c3 c4 c5 s0 s1 s2 HS1 HR1 HB1 l1
  rw [ho]
  clear hS1 hR1 hU1 ho HX
  go_wp2_with fail
  refine (resElements_any P Q G A B C _ [p, z, a, b] _ g1 (by omega) hQ (ints4_at rfl)).mono ?_
  rintro e w2 ⟨rfl, hU2⟩
  by_cases hal : [p, z, a, b].all (elB P Q) = true
  case neg =>
    have hal' : [p, z, a, b].all (elB P Q) = false := by simpa using hal
    have Hal := hid hal'
    have hE : E = 2 := by rw [HE1.out, if_neg hal]
    have hV : V = 0 := by rw [HV.out, hE, if_neg (by decide)]
    subst hE hV
    clear hal hal' HE1 HV
    rw [Hal.out]
    go_wp2
    go_ret2
    exact ⟨rfl, HU1.out.trans (((Up.refl _).alloc _).trans hU2)⟩
  have Hal := hid hal
  rw [Hal.out]
  have hE : E = 0 := by rw [HE1.out, if_pos hal]
  have hV : V = coinC P Q G A B C p root z a b := by rw [HV.out, hE, if_pos rfl]
  have HVc := hid hV
  have hU2' := ((Up.refl w1).alloc _).trans hU2
  subst hE
  have HS2 := hid (HS1.out.up hU2')
  have HR2 := hid (HR1.out.up hU2')
  have HB2 := hid (HB1.out.up hU2')
  have HU2 := hid (HU1.out.trans hU2')
  have hlw : o + 2 < w2.heap.size := HS2.out.lt
  clear c0 c1 c2 c3 c4 c5 s0 s1 s2 HS1 HR1 HB1 HU1 hal hV hU2 hU2' HE1 HV l1
  obtain ⟨⟨c0, c1, c2⟩, c3, c4, c5⟩ := HB2.out
  have l0 : o < w2.heap.size := by omega
  go_wp2_with fail
  obtain ⟨L, hL⟩ : ∃ L, w2.heap.size = L := ⟨_, rfl⟩
  have HL0 := hid (Blk.new (w := w2) (t := 142) (cs := #[.int .i64 3, .int .i64 0, nilS, nilS]) hL rfl)
  have HLw : Hid (w.heap.size ≤ L) := hid (by have := HU2.out.size; omega)
  rw [hL] at hlw l0
  rw [hL]
  obtain ⟨w3, hw3⟩ : ∃ w3, (w2.alloc (.cells #[.int .i64 3, .int .i64 0, nilS, nilS] 142)).alloc (.cells #[.int .i64 P, .int .i64 Q, .int .i64 G, .int .i64 A, .int .i64 B, .int .i64 C, .int .i64 p] 3) = w3 := ⟨_, rfl⟩
  have HL3 : Hid (Blk w3 L 142 #[.int .i64 3, .int .i64 0, nilS, nilS]) := hid (by rw [← hw3]; exact HL0.out.alloc _)
  have HN3 : Hid (Blk w3 (L + 1) 3 #[.int .i64 P, .int .i64 Q, .int .i64 G, .int .i64 A, .int .i64 B, .int .i64 C, .int .i64 p]) := hid (by rw [← hw3]; exact Blk.new (by simp [hL]) rfl)
  have HU23 : Hid (Up w2 w3) := hid (by rw [← hw3]; exact ((Up.refl _).alloc _).alloc _)
  have HL2 := hid hL
  obtain ⟨B0, hB0⟩ : ∃ B0, B0 = L + 2 := ⟨_, rfl⟩
  have HB0 := hid hB0
  rw [show (w2.alloc (.cells #[.int .i64 3, .int .i64 0, .slice none 0 0, .slice none 0 0] 142)).alloc (.cells #[.int .i64 P, .int .i64 Q, .int .i64 G, .int .i64 A, .int .i64 B, .int .i64 C, .int .i64 p] 3) = w3 from hw3]
  clear hL hw3 HL0 c0 c1 c2 c3 c4 c5 hB0
  have hn7 : ∀ i, i < 7 → (nums7 P Q G A B C p).take (i + 1) = (nums7 P Q G A B C p).take i ++ [(nums7 P Q G A B C p).getD i 0] := fun i hi => by
    rw [List.take_succ_eq_append_getElem (by simp [nums7]; omega)]
    simp [nums7, hi]
  have HN7 := hid hn7
  have hc7 : ∀ i, i < 7 → #[Value.int .i64 P, .int .i64 Q, .int .i64 G, .int .i64 A, .int .i64 B, .int .i64 C, .int .i64 p][i]? = some (.int .i64 ((nums7 P Q G A B C p).getD i 0)) := fun i hi => by
    have : i = 0 ∨ i = 1 ∨ i = 2 ∨ i = 3 ∨ i = 4 ∨ i = 5 ∨ i = 6 := by omega
    rcases this with rfl | rfl | rfl | rfl | rfl | rfl | rfl <;> rfl
  have HC7 := hid hc7
  have HLen7 : Hid (∀ i, i ≤ 7 → (((nums7 P Q G A B C p).take i).map quadI).length = i) := hid (fun i hi => by simp [nums7]; omega)
  clear hn7 hc7
  generalize hns : nums7 P Q G A B C p = ns at *
  have HNs := hid hns
  clear hns
  go_loopw [51] (fun vk wr => ∃ (i : Nat) (ad : Option Addr) (cp : Nat), i ≤ 7 ∧ vk = .int .i64 i ∧ Hid (Blk wr L 142 #[.int .i64 3, .int .i64 0, nilS, .slice ad i cp]) ∧ Hid (Blk wr (L + 1) 3 #[.int .i64 P, .int .i64 Q, .int .i64 G, .int .i64 A, .int .i64 B, .int .i64 C, .int .i64 p]) ∧ Hid (OwnQ 142 wr B0 (.slice ad i cp) ((ns.take i).map quadI)) ∧ Hid (Up w2 wr)) (fun vk _ => 7 - (intOf vk).toNat)
  case atStart => exact ⟨0, none, 0, by omega, rfl, HL3, HN3, hid ownQ_none, HU23⟩
  case round =>
    clear HL3 HN3 HU23
    obtain ⟨i, ad, cp, hi, rfl, HLk, HN, HO, HU⟩ := hrel
    have lL := HLk.out.lt
    have lN := HN.out.lt
    by_cases hlt : i < 7
    · have q1 := HN.out.val (HC7.out i hlt)
      have q3 := HLk.out.val (i := 3) rfl
      have HT7 := hid (HN7.out i hlt)
      have HLi := hid (HLen7.out i (by omega))
      have HLi1 := hid (HLen7.out (i + 1) (by omega))
      generalize ns.getD i 0 = n at *
      have HQ7 : Hid ((ns.take i).map quadI ++ [quadI n] = (ns.take (i + 1)).map quadI) := hid (by rw [HT7.out, List.map_append]; rfl)
      have di : decide ((i : Int) < 7) = true := by simp; omega
      have hS0 := anyW wr
      have hS1 := anyW wr.drew
      go_wp2_with fail

      go_region_law (first
        | (refine step_appQ infoItm rfl Tryz.underlying140 (by omega) (by rfl) _ _ (by rfl) B0 (news := [quadI n]) (by rfl) (by first | exact (HO9.out.up ((Up.refl _).alloc _)) | exact (HO9.out.up ((Up.refl _).alloc _).drew) | exact (HO9.out.up ((Up.refl _).drew.alloc _))) w9.heap.size 1 (by rfl) (fun j hj => by (obtain rfl : j = 0 := (by simp at hj; omega)); exact itm_new rfl) (fun j hj => by (obtain rfl : j = 0 := (by simp at hj; omega)); exact ⟨rfl, rfl⟩) (by have := HLi.out; simp; simp at this; omega) (by have := HB0.out; have := hU9.size; simp; omega) ?_; intro v10 w10 hO10 hg10; have hB10 : Below B0 w9 w10 := below_trans (below_of_up ((Up.refl w9).alloc _) (by have := HB0.out; have := hU9.size; omega)) ((HO9.out.up ((Up.refl _).alloc _)).below hg10 (by have := HB0.out; have := hU9.size; simp; omega)); have HL10 := hid (HL9.out.below hB10 (by have := HB0.out; omega)); have k3 := HL10.out.val (i := 3) rfl; have y3 := HL10.out.thawed 3; have l10 := HL10.out.lt; rw [HQ7.out] at hO10; obtain ⟨a10, c10, rfl⟩ := hO10.shape; rw [HLi1.out] at hO10; rw [HLi1.out])
        | (go_simp; go_at_call 99; refine (resNumber_any n _).mono ?_; rintro e w9 ⟨rfl, hU9⟩; have hU9 := Up.trans (by first | exact (Up.refl wr).drew | exact Up.refl wr | exact (Up.refl wr).drew.drew) hU9; have q9 := cellUp hU9 q3; have l9 : L < w9.heap.size := (by have := hU9.size; omega); have HL9 := hid (HLk.out.up hU9); have HO9 := hid (HO.out.up hU9); try dsimp only))
      all_goals (
        have HL11 : Hid (Blk (w10.setCell ⟨L, 3, none⟩ (.slice a10 (i + 1) c10)) L 142 #[.int .i64 3, .int .i64 0, nilS, .slice a10 (i + 1) c10]) := hid (HL10.out.wrote 3 _)
        have HN11 := hid ((((HN.out.up hU9).below hB10 (by have := HB0.out; omega)).apart (a := ⟨L, 3, none⟩) (by simp) (.slice a10 (i + 1) c10)))
        have HO11 := hid (hO10.set (a := ⟨L, 3, none⟩) (by have := HB0.out; show L < B0; omega) (.slice a10 (i + 1) c10))
        have HU11 := hid ((up_below (HU.out.trans hU9) hB10 (by have := HB0.out; have := HL2.out; omega)).setCell (a := ⟨L, 3, none⟩) (by have := HL2.out; show w2.heap.size ≤ L; omega) (.slice a10 (i + 1) c10))
        clear hU9 q9 l9 HL9 HO9 hg10 hB10 HL10 k3 y3 l10 hO10
        go_wp2_with fail
        go_roundw
        case rel => exact ⟨i + 1, a10, c10, by omega, by go_num, HL11, HN11, HO11, HU11⟩
        case measure => simp [intOf]; omega)
    · obtain rfl : i = 7 := by omega
      have HS4 := hid (HS2.out.up HU.out)
      have HR4 := hid (HR2.out.up HU.out)
      have HU4 := hid (HU2.out.trans HU.out)
      have HB4 := hid (HB2.out.up HU.out)
      have s0 := HS4.out.val (i := 0) rfl
      have s1 := HS4.out.val (i := 1) rfl
      have s2 := HS4.out.val (i := 2) rfl
      have q3 := HLk.out.val (i := 3) rfl
      have lR := HR4.out.lt
      have ho2 : o + 2 < wr.heap.size := HS4.out.lt
      have HOl := hid (HLen7.out 7 (by omega))
      clear HS2 HR2 HU2 HN
      have HSl : Hid (SeqAt .u8 wr (.slice (some ⟨o + 1, 0, none⟩) 32 32) (hList root)) := hid (seedAt HR4.out (fun i hi => by rw [← HCs.out, arrK_get hi]))
      go_wp2_with fail
      refine region_E (ChlS L o ad cp z a b r) 16 (by kernel_rfl) ((show ChlS L o ad cp z a b r wr from ⟨HLk.out, HS4.out⟩).up (Up.refl _).drew) fun hS => ?_
      refine anyE_take (i := 0) (v := ?_) 63 rfl rfl (by kernel_rfl) (by kernel_rfl) (by decide) (fun _ _ _ h => h) (by kernel_rfl) (by kernel_rfl) (.inl ⟨by rfl, fun u hu => ?_⟩) hS ?_
      rotate_left
      · (obtain ⟨t0, t1, t2, t3⟩ := ChlS.cells hu; go_simp; first | done | with_reducible rfl)
      simp only [Act.put, List.setIfInBounds_toArray, List.set_cons_zero, List.set_cons_succ]
      refine anyE_take (i := 1) (v := ?_) 64 rfl rfl (by kernel_rfl) (by kernel_rfl) (by decide) (fun _ _ _ h => h) (by kernel_rfl) (by kernel_rfl) (.inl ⟨by rfl, fun u hu => ?_⟩) hS ?_
      rotate_left
      · (obtain ⟨t0, t1, t2, t3⟩ := ChlS.cells hu; go_simp; first | done | with_reducible rfl)
      simp only [Act.put, List.setIfInBounds_toArray, List.set_cons_zero, List.set_cons_succ]
      refine anyE_take (i := 2) (v := ?_) 65 rfl rfl (by kernel_rfl) (by kernel_rfl) (by decide) (fun _ _ _ h => h) (by kernel_rfl) (by kernel_rfl) (.inl ⟨by rfl, fun u hu => ?_⟩) hS ?_
      rotate_left
      · (obtain ⟨t0, t1, t2, t3⟩ := ChlS.cells hu; go_simp; first | done | with_reducible rfl)
      simp only [Act.put, List.setIfInBounds_toArray, List.set_cons_zero, List.set_cons_succ]
      refine anyE_take (i := 3) (v := ?_) 66 rfl rfl (by kernel_rfl) (by kernel_rfl) (by decide) (fun _ _ _ h => h) (by kernel_rfl) (by kernel_rfl) (.inl ⟨by rfl, fun u hu => ?_⟩) hS ?_
      rotate_left
      · (obtain ⟨t0, t1, t2, t3⟩ := ChlS.cells hu; go_simp; first | done | with_reducible rfl)
      simp only [Act.put, List.setIfInBounds_toArray, List.set_cons_zero, List.set_cons_succ]
      refine anyE_take (i := 4) (v := ?_) 67 rfl rfl (by kernel_rfl) (by kernel_rfl) (by decide) (fun _ _ _ h => h) (by kernel_rfl) (by kernel_rfl) (.inl ⟨by rfl, fun u hu => ?_⟩) hS ?_
      rotate_left
      · (obtain ⟨t0, t1, t2, t3⟩ := ChlS.cells hu; go_simp; first | done | with_reducible rfl)
      simp only [Act.put, List.setIfInBounds_toArray, List.set_cons_zero, List.set_cons_succ]
      refine anyE_take (i := 5) (v := ?_) 68 rfl rfl (by kernel_rfl) (by kernel_rfl) (by decide) (fun _ _ _ h => h) (by kernel_rfl) (by kernel_rfl) (.inl ⟨by rfl, fun u hu => ?_⟩) hS ?_
      rotate_left
      · (obtain ⟨t0, t1, t2, t3⟩ := ChlS.cells hu; go_simp; first | done | with_reducible rfl)
      simp only [Act.put, List.setIfInBounds_toArray, List.set_cons_zero, List.set_cons_succ]
      refine anyE_take (i := 7) (v := ?_) 70 rfl rfl (by kernel_rfl) (by kernel_rfl) (by decide) (fun _ _ _ h => h) (by kernel_rfl) (by kernel_rfl) (.inl ⟨by rfl, fun u hu => ?_⟩) hS ?_
      rotate_left
      · (obtain ⟨t0, t1, t2, t3⟩ := ChlS.cells hu; go_simp; first | done | with_reducible rfl)
      simp only [Act.put, List.setIfInBounds_toArray, List.set_cons_zero, List.set_cons_succ]
      refine anyE_take (i := 8) (v := ?_) 71 rfl rfl (by kernel_rfl) (by kernel_rfl) (by decide) (fun _ _ _ h => h) (by kernel_rfl) (by kernel_rfl) (.inl ⟨by rfl, fun u hu => ?_⟩) hS ?_
      rotate_left
      · (obtain ⟨t0, t1, t2, t3⟩ := ChlS.cells hu; go_simp; first | done | with_reducible rfl)
      simp only [Act.put, List.setIfInBounds_toArray, List.set_cons_zero, List.set_cons_succ]
      refine anyE_take (i := 10) (v := ?_) 73 rfl rfl (by kernel_rfl) (by kernel_rfl) (by decide) (fun _ _ _ h => h) (by kernel_rfl) (by kernel_rfl) (.inl ⟨by rfl, fun u hu => ?_⟩) hS ?_
      rotate_left
      · (obtain ⟨t0, t1, t2, t3⟩ := ChlS.cells hu; go_simp; first | done | with_reducible rfl)
      simp only [Act.put, List.setIfInBounds_toArray, List.set_cons_zero, List.set_cons_succ]
      refine anyE_take (i := 11) (v := ?_) 74 rfl rfl (by kernel_rfl) (by kernel_rfl) (by decide) (fun _ _ _ h => h) (by kernel_rfl) (by kernel_rfl) (.inl ⟨by rfl, fun u hu => ?_⟩) hS ?_
      rotate_left
      · (obtain ⟨t0, t1, t2, t3⟩ := ChlS.cells hu; go_simp; first | done | with_reducible rfl)
      simp only [Act.put, List.setIfInBounds_toArray, List.set_cons_zero, List.set_cons_succ]
      refine anyE_one (i := 6) rfl (by kernel_rfl) rfl (fun K hK => ?_)
      go_simp
      go_at_call 99
      refine (resNumber_any z _).mono ?_
      rintro e w5 ⟨rfl, hUw5⟩
      try dsimp only
      have hSw5 := ChlS.up hS hUw5
      refine hK.out _ _ (.inr hSw5) ?_
      clear hK
      try simp only [Act.put, List.setIfInBounds_toArray, List.set_cons_zero, List.set_cons_succ]
      refine anyE_one (i := 9) rfl (by kernel_rfl) rfl (fun K hK => ?_)
      go_simp
      go_at_call 99
      refine (resNumber_any a _).mono ?_
      rintro e w6 ⟨rfl, hUw6⟩
      try dsimp only
      have hSw6 := ChlS.up hSw5 hUw6
      refine hK.out _ _ (.inr hSw6) ?_
      clear hK
      try simp only [Act.put, List.setIfInBounds_toArray, List.set_cons_zero, List.set_cons_succ]
      refine anyE_one (i := 12) rfl (by kernel_rfl) rfl (fun K hK => ?_)
      go_simp
      go_at_call 99
      refine (resNumber_any b _).mono ?_
      rintro e w7 ⟨rfl, hUw7⟩
      try dsimp only
      have hSw7 := ChlS.up hSw6 hUw7
      refine hK.out _ _ (.inr hSw7) ?_
      clear hK
      try simp only [Act.put, List.setIfInBounds_toArray, List.set_cons_zero, List.set_cons_succ]
      refine anyE_one (i := 13) rfl (by kernel_rfl) rfl (fun K hK => ?_)
      go_simp
      have hS8 := ChlS.up hSw7 ((Up.refl w7).alloc (.cells #[.int .i64 2, .int .i64 0, .slice (some ⟨o + 1, 0, none⟩) 32 32, nilS, .int .i64 1, .int .i64 z, nilS, nilS, .int .i64 1, .int .i64 a, nilS, nilS, .int .i64 1, .int .i64 b, nilS, nilS] 142))
      refine hK.out _ _ (.inr hS8) ?_
      clear hK
      try simp only [Act.put, List.setIfInBounds_toArray, List.set_cons_zero, List.set_cons_succ]
      have hU7 : Up wr w7 := (Up.refl wr).drew.trans (hUw5.trans (hUw6.trans hUw7))
      have hs7 := hU7.size
      have hB0 := HB0.out
      have hO8 := HO.out.up (hU7.alloc (.cells #[.int .i64 2, .int .i64 0, .slice (some ⟨o + 1, 0, none⟩) 32 32, nilS, .int .i64 1, .int .i64 z, nilS, nilS, .int .i64 1, .int .i64 a, nilS, nilS, .int .i64 1, .int .i64 b, nilS, nilS] 142))
      refine anyE_one (i := 14) rfl (by kernel_rfl) rfl (fun K hK => ?_)
      refine op_appQ infoItm rfl Tryz.underlying140 (by omega) _ _ rfl B0 (news := chlQ (o + 1) z a b) rfl hO8 w7.heap.size 4 rfl (chlQ_cells rfl) chlQ_one (by rw [HOl.out]; simp [chlQ]) (by simp; omega) ?_
      intro v10 w10 hO10 hg10
      have hB10 : Below B0 w7 w10 := below_trans (below_of_up ((Up.refl w7).alloc _) (by omega)) (hO8.below hg10 (by simp; omega))
      have hS10 : ChlS L o ad cp z a b r w10 := ChlS.below hSw7 hB10 (by omega) (by omega)
      change K (Act.put _ (some 77) _) _
      refine hK.out _ _ (.inr hS10) ?_
      clear hK
      try simp only [Act.put, List.setIfInBounds_toArray, List.set_cons_zero, List.set_cons_succ]
      refine anyE_take (i := 15) (v := ?_) 78 rfl rfl (by kernel_rfl) (by kernel_rfl) (by decide) (fun _ _ _ h => h) (by kernel_rfl) (by kernel_rfl) (.inl ⟨by rfl, fun u hu => ?_⟩) hS10 ?_
      rotate_left
      · (obtain ⟨t0, t1, t2, t3⟩ := ChlS.cells hu; go_simp; first | done | with_reducible rfl)
      simp only [Act.put, List.setIfInBounds_toArray, List.set_cons_zero, List.set_cons_succ]
      have k3 := hS10.1.val (i := 3) rfl
      have y3 := hS10.1.thawed 3
      obtain ⟨a10, c10, rfl⟩ := hO10.shape
      have HL11 : Hid (Blk (w10.setCell ⟨L, 3, none⟩ (.slice a10 ((ns.take 7).map quadI ++ chlQ (o + 1) z a b).length c10)) L 142 #[.int .i64 3, .int .i64 0, nilS, .slice a10 ((ns.take 7).map quadI ++ chlQ (o + 1) z a b).length c10]) := hid (hS10.1.wrote 3 _)
      have HO11 := hid (hO10.set (a := ⟨L, 3, none⟩) (by show L < B0; omega) (.slice a10 ((ns.take 7).map quadI ++ chlQ (o + 1) z a b).length c10))
      have HR11 := hid ((((HR4.out.up hU7).below hB10 (by omega)).apart (a := ⟨L, 3, none⟩) (show o + 1 ≠ L by omega) (.slice a10 ((ns.take 7).map quadI ++ chlQ (o + 1) z a b).length c10)))
      have HU11 := hid ((up_below (HU4.out.trans hU7) hB10 (by have := HLw.out; omega)).setCell (a := ⟨L, 3, none⟩) (by have := HLw.out; show w.heap.size ≤ L; omega) (.slice a10 ((ns.take 7).map quadI ++ chlQ (o + 1) z a b).length c10))
      have HB11 : Hid (BasAt (w10.setCell ⟨L, 3, none⟩ (.slice a10 ((ns.take 7).map quadI ++ chlQ (o + 1) z a b).length c10)) o P Q G A B C) := hid (HB2.out.up ((up_below (HU.out.trans hU7) hB10 (by have := HL2.out; omega)).setCell (a := ⟨L, 3, none⟩) (by have := HL2.out; show w2.heap.size ≤ L; omega) _))
      have hlen : ((ns.take 7).map quadI ++ chlQ (o + 1) z a b).length = 11 := by rw [List.length_append, HOl.out]; rfl
      have HQs : Hid ((ns.take 7).map quadI ++ chlQ (o + 1) z a b = (nums7 P Q G A B C p).map quadI ++ chlQ (o + 1) z a b) := hid (by rw [← HNs.out]; rfl)
      rw [hlen] at HL11 HR11 HU11 HB11 HO11
      rw [hlen]
      refine anyE_one (i := 16) rfl (by kernel_rfl) rfl (fun K hK => ?_)
      go_simp
      refine hK.out _ _ (.inl rfl) (anyE_done (by kernel_rfl) ?_ _)
      clear hK K hS hSw5 hSw6 hSw7 hS8 hS10 hU7 hs7 hO8 hO10 hg10 hB10 k3 y3 hUw5 hUw6 hUw7
      generalize w10.setCell ⟨L, 3, none⟩ (.slice a10 11 c10) = w11 at *
      have HIt : Hid (ItmAt w11 1 3 0 nilS (.slice a10 11 c10) (encList (coinL P Q G A B C p root z a b))) := hid (by
        have h1 := HO11.out
        rw [HQs.out] at h1
        exact itm_list (h1.row (chlQ_at P Q G A B C p z a b (seedAt HR11.out (fun i hi => by rw [← HCs.out, arrK_get hi])) HR.out)) (by simp [coinL]))
      have m0 := HL11.out.val (i := 0) rfl
      have m1 := HL11.out.val (i := 1) rfl
      have m2 := HL11.out.val (i := 2) rfl
      have m3 := HL11.out.val (i := 3) rfl
      have HEl : Hid ((encList (coinL P Q G A B C p root z a b)).length = 132) := hid (by rw [encList_length, coinL_flat])
      have HEb := hid (coinL_byt (P := P) (Q := Q) (G := G) (A := A) (B := B) (C := C) (p := p) (z := z) (a := a) (b := b) HR.out)
      have HVn : Hid (V = numH (tagB (txt coinTag) (encList (coinL P Q G A B C p root z a b))) Q) := hid (by rw [HVc.out, coinTag_txt]; rfl)
      have lo11 : o < w11.heap.size := by have := HR11.out.lt; omega
      clear HL2 HU HSl HOl HQs HLk HO HS4 HR4 HU4 HB4 HB2 HO11 HR11 HL11 s0 s1 s2 q3 lR ho2 lL lN hlen
      generalize encList (coinL P Q G A B C p root z a b) = es at *
      go_wp2_with fail
      refine (Encode_short HIt.out (by omega) (by rw [HEl.out]; omega)).mono ?_
      rintro e w12 ⟨v12, rfl, hO12, hU12⟩
      have HO12 := hid hO12.seq
      have HU12 := hid (HU11.out.trans hU12)
      have HB12 := hid (HB11.out.up hU12)
      clear hO12 hU12 HIt m0 m1 m2 m3 HU11 HB11 lo11
      have lo12 : o < w12.heap.size := cell_lt HB12.out.1.1
      go_wp2_with fail
      refine (Tagged_any coinTag v12 es _ (HS.out.up HU12.out) (by decide) (by decide) HO12.out (by rw [HEl.out]; omega) HEb.out).mono ?_
      rintro e w13 ⟨rfl, hU13⟩
      have HU13 := hid (HU12.out.trans hU13)
      have HB13 := hid (HB12.out.up hU13)
      clear hU13 HU12 HB12 lo12 HO12
      have lo13 : o < w13.heap.size := cell_lt HB13.out.1.1
      have HHb := hid (tagB_range (txt coinTag) es)
      generalize tagB (txt coinTag) es = H at *
      obtain ⟨⟨c0, c1, c2⟩, c3, c4, c5⟩ := HB13.out
      unfold hashV
      go_wp2_with (first
        | (refine wpList_store_rowTo rfl 55 _ _ rfl rfl _ _ rfl rfl 55 _ (heap_alloc_new _ _) (by rw [arrK_size]; kernel_rfl) (by rw [arrK_size]; rfl) arrK_one ?_; rw [World.setRow_alloc_new])
        | (refine wpList_load_row rfl 55 _ rfl w13.heap.size rfl 55 (arrK .u8 H 32) (0, 0) _ (Blk.new rfl rfl) Tryz.underlying55 rfl (by rw [arrK_size]; kernel_rfl) ?_))
      refine (Number_ok H Q _ HHb.out (by omega) (by omega)).mono ?_
      rintro e w14 ⟨rfl, hU14⟩
      have HU14 := hid ((HU13.out.alloc _).trans hU14)
      clear hU14 c0 c1 c2 c3 c4 c5 HB13 lo13
      go_wp2_with fail
      go_ret2
      exact ⟨by rw [HVn.out]; rfl, HU14.out⟩
end Go.Proofs.YtoaomjdpiealfaaGreatDoor
namespace Go.Proofs.YtoaomjdpiealfaaGreatDoor
open Go.RowKit Go.Sp
set_option maxHeartbeats 4000000
set_option maxRecDepth 20000

/-- A text that is a label. -/
structure Lab (s : ByteArray) : Prop where
  one : 1 ≤ s.size
  max : s.size ≤ 24
  chr : ∀ x ∈ txt s, 33 ≤ x ∧ x ≤ 126

theorem labelChar (x : Int) (w : World) (h0 : 33 ≤ x) (h1 : x ≤ 126) : Calls Tryz.prog 199 #[.int .u8 x] w fun e w' => e = .returned (.bool false) ∧ Up w w' := by
  have d0 : decide (x < 33) = false := by simp; omega
  have d1 : decide (x > 126) = false := by simp; omega
  go_enter Tryz.func199, Tryz.ntmps199
  go_wp2
  go_ret
  exact ⟨rfl, Up.refl w⟩

theorem IndexFuncB (v : Value) (xs : List Int) (w : World) (hv : SeqAt .u8 w v xs) (hx : ∀ x ∈ xs, 33 ≤ x ∧ x ≤ 126) :
    Calls Tryz.prog 223 #[v, .func (.func 199) #[] #[]] w fun e w' => e = .returned (.int .i64 (-1)) ∧ Up w w' := by
  have HX := hid hx
  have HV := hid hv
  obtain ⟨a, cap, rfl, hc1, hc2⟩ := hv.shape
  obtain ⟨m, hm⟩ : ∃ m, xs.length = m := ⟨_, rfl⟩
  have HM := hid hm
  rw [hm] at hc1
  rw [hm]
  clear hv hx hm
  go_enter Tryz.func223, Tryz.ntmps223
  go_wp2_with fail
  go_loopw [8] (fun vi wr => ∃ i : Nat, i ≤ m ∧ vi = .int .i64 i ∧ Hid (Up w wr)) (fun vi _ => m - (intOf vi).toNat)
  case atStart => exact ⟨0, by omega, rfl, hid (Up.refl _)⟩
  case round =>
    obtain ⟨i, him, rfl, HU⟩ := hrel
    by_cases hl : i < m
    · have hl2 : i < xs.length := by rw [HM.out]; exact hl
      obtain ⟨b, off, c, he, hc⟩ := (HV.out.up HU.out).cell hl2
      obtain ⟨rfl, _, rfl⟩ := (Value.slice.inj he)
      have hx := HX.out (xs.getD i 0) (by simp [hl2])
      clear he hl2
      generalize xs.getD i 0 = x at *
      have HE := hid (fun w' => labelChar x w' hx.1 hx.2)
      clear hx
      go_wp2_with fail
      refine (HE.out _).mono ?_
      rintro e w2 ⟨rfl, hU2⟩
      have HU2 := hid (HU.out.trans hU2)
      clear hU2 hc HE
      go_wp2_with fail
      go_roundw
      case rel => exact ⟨i + 1, by omega, by go_num, HU2⟩
      case measure => simp [intOf]; omega
    · have hl2 : decide (i < m) = false := by simpa using hl
      go_wp2
      go_ret
      exact ⟨rfl, HU.out⟩

theorem ContainsFuncB (v : Value) (xs : List Int) (w : World) (hv : SeqAt .u8 w v xs) (hx : ∀ x ∈ xs, 33 ≤ x ∧ x ≤ 126) :
    Calls Tryz.prog 198 #[v, .func (.func 199) #[] #[]] w fun e w' => e = .returned (.bool false) ∧ Up w w' := by
  have HI := hid (IndexFuncB v xs w hv hx)
  clear hv hx
  go_enter Tryz.func198, Tryz.ntmps198
  go_wp2_with fail
  refine HI.out.mono ?_
  rintro e w2 ⟨rfl, hU2⟩
  go_wp2
  go_ret
  exact ⟨rfl, hU2⟩

theorem tvalid_ok (s : ByteArray) (w : World) (h : Lab s) : Calls Tryz.prog 149 #[.string s] w fun e w' => e = .returned (.bool true) ∧ Up w w' := by
  have HL := hid h
  have d0 : decide ((s.size : Int) ≥ 1) = true := by have := h.one; simp; omega
  have d1 : decide ((s.size : Int) ≤ 24) = true := by have := h.max; simp; omega
  have d2 : s.size ≤ 24 := h.max
  have hcv := fun w' => run_bytes_of_string (P := Tryz.prog) w' 9 25 5 s Tryz.underlying9 Tryz.underlying25 Tryz.underlying5
  clear h
  go_enter Tryz.func149, Tryz.ntmps149
  go_wp2_with fail
  refine (ContainsFuncB _ (txt s) _ (seq_text_at s _ _ _ rfl cap_ge (cap_le (by omega))) HL.out.chr).mono ?_
  rintro e w1 ⟨rfl, hU1⟩
  clear hcv
  go_wp2
  go_ret
  exact ⟨rfl, (((Up.refl w).alloc _).drew).trans hU1⟩

theorem tValid_ok (h : Nat → Int) (c : Int) (w : World) (c0 : 0 ≤ c) (c1 : c ≤ 1000) : Calls Tryz.prog 152 #[drw h c] w fun e w' => e = .returned (.bool true) ∧ Up w w' := by
  have hq := drwA_ctr h c
  unfold drw
  generalize drwA h c = cs at *
  have d0 : decide (c ≥ 0) = true := by simp; omega
  have d1 : decide (c ≤ 1000) = true := by simp; omega
  go_enter Tryz.func152, Tryz.ntmps152
  go_wp2
  go_ret
  exact ⟨rfl, (Up.refl w).alloc _⟩

theorem OwnQ.inside {e : TypeId} {w : World} {base : Nat} {v : Value} {qs : List Quad} (h : OwnQ e w base v qs) (j : Nat) (hj : v.ownBlock = some j) : j < w.heap.size := by
  rcases h.2 with ⟨hv, _⟩ | ⟨g, cap, cur, rfl, hb, hg, _⟩
  · rw [hv] at hj; cases hj
  · simp [Value.ownBlock] at hj
    subst hj
    exact (Array.getElem?_eq_some_iff.1 hg).1
theorem stopHere {p : Prop} (h : Hid p) : p := h

/-- Two items in a block of their own. -/
theorem own_two {w : World} {g base : Nat} {e : TypeId} {b1 b2 : Value} (hg : w.heap.size = g) (hb : base ≤ g) :
    OwnQ e (w.alloc (.cells #[.int .i64 2, .int .i64 0, b1, nilS, .int .i64 2, .int .i64 0, b2, nilS] e)) base (.slice (some ⟨g, 0, none⟩) 2 2) [⟨2, 0, b1, nilS⟩, ⟨2, 0, b2, nilS⟩] := by
  have h : Blk (w.alloc (.cells #[.int .i64 2, .int .i64 0, b1, nilS, .int .i64 2, .int .i64 0, b2, nilS] e)) g e #[.int .i64 2, .int .i64 0, b1, nilS, .int .i64 2, .int .i64 0, b2, nilS] := Blk.new hg rfl
  exact ⟨rfl, .inr ⟨g, 2, _, rfl, hb, h, Nat.le_refl _, by unfold maxLen; omega, rfl, rfl⟩⟩

/-- append(l, more...), where there are none more. -/
theorem wp_appQ_none {P : Program} {e t : TypeId} {z : Value} {bytes : Nat} (hI : (P.info? e).map (fun i => (i.zero, i.size, i.bytes)) = some (some z, 4, bytes)) (ht : P.underlying t = some (.slice e))
    {ops : Array Oper} {rest : List Oper} {o : Oper} {a : Act} {w : World} {Q : Exit → Act → World → Prop} (hgd : o.guard = none) (s x : Operand)
    (ho : o.op = .call { callee := .builtin .append, args := #[s, x], argTypes := #[t, t] })
    (base : Nat) {v : Value} {qs : List Quad} (hs : a.eval s = v) (hown : OwnQ e w base v qs) (hx : a.eval x = nilS) (h : wpList P ops Q rest (a.put o.dst v) w) : wpList P ops Q (o :: rest) a w := by
  obtain ⟨i0, hi, hz0, hz1, hz2⟩ := info_parts hI
  exact wpList_append_own_none hgd s x t ho base e i0 4 ht hi v qs.length _ hs hown hx h
end Go.Proofs.YtoaomjdpiealfaaGreatDoor
namespace Go.Proofs.YtoaomjdpiealfaaGreatDoor
open Go.RowKit Go.Sp
set_option maxHeartbeats 4000000
set_option maxRecDepth 20000

theorem frameE_byt {h : Nat → Int} {s : List Int} {more : List (List Int)} (hB : Byt h) (hs : ∀ x ∈ s, 0 ≤ x ∧ x ≤ 255) (hm : ∀ e ∈ more, ∀ x ∈ e, 0 ≤ x ∧ x ≤ 255) : ∀ x ∈ frameE h s more, 0 ≤ x ∧ x ≤ 255 := by
  refine encList_byt fun e he => ?_
  simp only [List.mem_cons] at he
  rcases he with rfl | rfl | he
  · exact encBytes_byt (hList_bytes hB)
  · exact encBytes_byt hs
  · exact hm e he

theorem zero32h : #[.int .u8 0, .int .u8 0, .int .u8 0, .int .u8 0, .int .u8 0, .int .u8 0, .int .u8 0, .int .u8 0, .int .u8 0, .int .u8 0, .int .u8 0, .int .u8 0, .int .u8 0, .int .u8 0, .int .u8 0, .int .u8 0, .int .u8 0, .int .u8 0, .int .u8 0, .int .u8 0, .int .u8 0, .int .u8 0, .int .u8 0, .int .u8 0, .int .u8 0, .int .u8 0, .int .u8 0, .int .u8 0, .int .u8 0, .int .u8 0, .int .u8 0, .int .u8 0] = arrK .u8 (fun _ => 0) 32 := by kernel_rfl

/-- What a frame's two first items are. -/
def frQ (o o2 n cp : Nat) : List Quad := [⟨2, 0, .slice (some ⟨o, 0, none⟩) 32 32, nilS⟩, ⟨2, 0, .slice (some ⟨o2, 0, none⟩) n cp, nilS⟩]
theorem frQ_at {w : World} {o o2 cp d : Nat} {cs : Array Value} {t : TypeId} {h : Nat → Int} {s : ByteArray} (hb : Blk w o t cs) (hg : ∀ i, i < 32 → cs[i]? = some (.int .u8 (h i))) (hB : Byt h) (hs : SeqAt .u8 w (.slice (some ⟨o2, 0, none⟩) s.size cp) (txt s)) (hl : s.size ≤ 24) :
    QuadAt w d (frQ o o2 s.size cp) [encBytes (hList h), encBytes (txt s)] := by
  have h1 : QuadAt w d [⟨2, 0, .slice (some ⟨o, 0, none⟩) 32 32, nilS⟩] [encBytes (hList h)] := QuadAt.one (itm_bytes (seedAt hb hg) (by rw [hList_length]; omega) (hList_bytes hB) d)
  have h2 : QuadAt w d [⟨2, 0, .slice (some ⟨o2, 0, none⟩) s.size cp, nilS⟩] [encBytes (txt s)] := QuadAt.one (itm_bytes hs (by rw [txt_length]; omega) (txt_byt s) d)
  exact h1.app h2

theorem thash_one (tag : ByteArray) (h : Nat → Int) (c : Int) (s : ByteArray) (g0 : Nat) (q : Quad) (es : List Int) (w : World) (hT : TabS w) (hB : Byt h) (ht0 : 1 ≤ tag.size) (ht1 : tag.size ≤ 100) (hs : Lab s)
    (hc : ItmCells w g0 0 q.k q.n q.b q.l) (hq : ItmAt w 6 q.k q.n q.b q.l es) (hl : es.length ≤ 16000) (hes : ∀ x ∈ es, 0 ≤ x ∧ x ≤ 255) :
    Calls Tryz.prog 153 #[.string tag, drw h c, .string s, .slice (some ⟨g0, 0, none⟩) 1 1] w fun e w' => e = .returned (.tuple #[hashV (tagB (txt tag) (frameE h (txt s) [es])), .int .i64 0]) ∧ Up w w' := by
  obtain ⟨F, hF⟩ : ∃ F, frameE h (txt s) [es] = F := ⟨_, rfl⟩
  have HF : Hid (F = encList [encBytes (hList h), encBytes (txt s), es]) := hid hF.symm
  have hFl : F.length ≤ 16384 := by rw [← hF, frameE_length, txt_length]; have := hs.max; simp; omega
  have hFb : ∀ x ∈ F, 0 ≤ x ∧ x ≤ 255 := by
    rw [← hF]
    exact frameE_byt hB (txt_byt s) (fun e he => by
      simp at he
      subst he
      exact hes)
  have HTg := hid (fun w' (v' : Value) (hU : Up w w') (hv' : SeqAt .u8 w' v' F) => Tagged_any tag v' F w' (hT.up hU) ht0 ht1 hv' (by omega) hFb)
  rw [hF]
  generalize tagB (txt tag) F = R at *
  have HL := hid hs
  have HC := hid hc
  have HQ := hid hq
  have HBh := hid hB
  have HFl := hid hFl
  have hget := fun i (hi : i < 32) => drwA_get h c hi
  have HG := hid hget
  have d2 : s.size ≤ 24 := hs.max
  have hcv := fun w' => run_bytes_of_string (P := Tryz.prog) w' 9 25 5 s Tryz.underlying9 Tryz.underlying25 Tryz.underlying5
  unfold drw
  generalize drwA h c = cs at *
  clear hT hB ht0 ht1 hs hc hq hl hes hF hFl hFb hget
  obtain ⟨o, ho⟩ : ∃ o, w.heap.size = o := ⟨_, rfl⟩
  have HO := hid ho
  obtain ⟨o1, ho1⟩ : ∃ o1, o + 1 = o1 := ⟨_, rfl⟩
  have HO1 := hid ho1
  obtain ⟨o2, ho2⟩ : ∃ o2, o1 + 1 = o2 := ⟨_, rfl⟩
  have HO2 := hid ho2
  obtain ⟨o3, ho3⟩ : ∃ o3, o2 + 1 = o3 := ⟨_, rfl⟩
  have HO3 := hid ho3
  clear ho ho1 ho2 ho3
  go_enter Tryz.func153, Tryz.ntmps153
  go_wp2_with (at_builtin; refine stopHere ?_)
  clear hcv
  unfold Hid
  generalize hcp : grownCap _ _ _ _ = cp
  generalize hW : World.alloc _ _ = w0
  have hc0 : s.size ≤ cp := by rw [← hcp]; exact cap_ge
  have hc1 : cp ≤ 9223372036854775807 := by rw [← hcp]; exact cap_le (by omega)
  have HU0 : Hid (Up w w0.drew) := hid (by rw [← hW]; exact (((((Up.refl w).alloc _).alloc _).alloc _).alloc _).drew)
  have HS0 : Hid (Blk w0.drew o 127 cs) := hid (by rw [← hW]; exact ((((Blk.new HO.out rfl).alloc _).alloc _).alloc _).up (Up.refl _).drew)
  have HZ0 : Hid (Blk w0.drew o1 55 (arrK .u8 (fun _ => 0) 32)) := hid (by rw [← hW]; exact (((Blk.new (by have := HO.out; have := HO1.out; simp; omega) zero32h).alloc _).alloc _).up (Up.refl _).drew)
  have HX0 : Hid (SeqAt .u8 w0.drew (.slice (some ⟨o2, 0, none⟩) s.size cp) (txt s)) := hid (by
    rw [← hW]
    have h := seq_text ((w.alloc (.cells cs 127)).alloc (.cells #[.int .u8 0, .int .u8 0, .int .u8 0, .int .u8 0, .int .u8 0, .int .u8 0, .int .u8 0, .int .u8 0, .int .u8 0, .int .u8 0, .int .u8 0, .int .u8 0, .int .u8 0, .int .u8 0, .int .u8 0, .int .u8 0, .int .u8 0, .int .u8 0, .int .u8 0, .int .u8 0, .int .u8 0, .int .u8 0, .int .u8 0, .int .u8 0, .int .u8 0, .int .u8 0, .int .u8 0, .int .u8 0, .int .u8 0, .int .u8 0, .int .u8 0, .int .u8 0] 55)) s cp 5 ((bytesRow s cp).size, (bytesRow s cp).size + 1) hc0 hc1
    rw [show ((w.alloc (.cells cs 127)).alloc (.cells #[.int .u8 0, .int .u8 0, .int .u8 0, .int .u8 0, .int .u8 0, .int .u8 0, .int .u8 0, .int .u8 0, .int .u8 0, .int .u8 0, .int .u8 0, .int .u8 0, .int .u8 0, .int .u8 0, .int .u8 0, .int .u8 0, .int .u8 0, .int .u8 0, .int .u8 0, .int .u8 0, .int .u8 0, .int .u8 0, .int .u8 0, .int .u8 0, .int .u8 0, .int .u8 0, .int .u8 0, .int .u8 0, .int .u8 0, .int .u8 0, .int .u8 0, .int .u8 0] 55)).heap.size = o2 by have := HO.out; have := HO1.out; have := HO2.out; simp; omega] at h
    exact (h.up ((Up.refl _).alloc _)).up (Up.refl _).drew)
  have HQ0 : Hid (OwnQ 142 w0.drew o3 (.slice (some ⟨o3, 0, none⟩) 2 2) (frQ o o2 s.size cp)) := hid (by
    rw [← hW, HO.out, HO1.out, HO2.out]
    exact (own_two (by have := HO.out; have := HO1.out; have := HO2.out; have := HO3.out; simp; omega) (Nat.le_refl _)).up (Up.refl _).drew)
  rw [HO.out, HO1.out, HO2.out, HO3.out]
  clear hcp hW
  have hz : o3 ≤ w0.drew.heap.size := by have := OwnQ.inside HQ0.out o3 rfl; omega
  generalize w0.drew = w1 at *
  refine wp_appQ infoItm rfl Tryz.underlying140 (by omega) rfl _ _ rfl o3 rfl HQ0.out g0 1 (news := [q]) rfl (fun j hj => by
    obtain rfl : j = 0 := by simp at hj; omega
    exact HC.out.up HU0.out) (fun j hj => by
    obtain rfl : j = 0 := by simp at hj; omega
    exact HQ.out.one) (by simp [frQ]) hz ?_
  intro v3 w3 hO3 hg3
  have hB3 := HQ0.out.below hg3 hz
  have HU3 := hid (up_below HU0.out hB3 (by have := HO.out; have := HO1.out; have := HO2.out; have := HO3.out; omega))
  have HS3 := hid (HS0.out.below hB3 (by have := HO1.out; have := HO2.out; have := HO3.out; omega))
  have HZ3 := hid (HZ0.out.below hB3 (by have := HO2.out; have := HO3.out; omega))
  have HX3 := hid (HX0.out.below hB3 (fun b off n c he => by
    have := (Value.slice.inj he).1
    injection this with this
    injection this with this _ _
    have := HO3.out
    omega))
  have HIt : Hid (ItmAt w3 7 3 0 nilS v3 F) := hid (by
    rw [HF.out]
    exact itm_list (hO3.row ((frQ_at HS3.out HG.out HBh.out HX3.out d2).app (QuadAt.one (HQ.out.up HU3.out)))) (by simp))
  obtain ⟨a3, c3, rfl⟩ := hO3.shape
  change Hid (ItmAt w3 7 3 0 nilS (.slice a3 3 c3) F) at HIt
  change wpList _ _ _ _ (Act.put _ _ (.slice a3 3 c3)) _
  clear hO3 hg3 hB3 HX3 HS3 HX0 HS0 HQ0 HU0 HZ0 hz
  go_wp2_with fail
  refine (Encode_short HIt.out (by omega) HFl.out).mono ?_
  rintro e w4 ⟨v4, rfl, hO4, hU4⟩
  have HO4 := hid hO4.seq
  have HZ4 := hid (HZ3.out.up hU4)
  have HU4 := hid (HU3.out.trans hU4)
  clear hO4 hU4 HZ3 HU3 HIt
  go_wp2_with fail
  refine (HTg.out _ _ HU4.out HO4.out).mono ?_
  rintro e w5 ⟨rfl, hU5⟩
  have HZ5 := hid (HZ4.out.up hU5)
  have HU5 := hid (HU4.out.trans hU5)
  clear hU5 HZ4 HU4 HO4
  unfold hashV
  go_wp2_with (first | (refine wpList_store_rowTo rfl 55 _ _ rfl rfl o1 (arrK .u8 R 32) rfl rfl 55 (arrK .u8 (fun _ => 0) 32) HZ5.out (by rw [arrK_size]; kernel_rfl) (by rw [arrK_size, arrK_size]) arrK_one ?_))
  refine bodyPost_ret (v := .tuple #[.agg (arrK .u8 R 32), .int .i64 0]) (results_row_tmp Tryz.results153 _ _ o1 55 _ (0, 0) _ (by rfl) (HZ5.out.row _) Tryz.underlying55 rfl (by rw [arrK_size]; kernel_rfl)) rfl ⟨rfl, HU5.out.setRow (by have := HO.out; have := HO1.out; omega) _⟩

theorem thash_none (tag : ByteArray) (h : Nat → Int) (c : Int) (s : ByteArray) (w : World) (hT : TabS w) (hB : Byt h) (ht0 : 1 ≤ tag.size) (ht1 : tag.size ≤ 100) (hs : Lab s) :
    Calls Tryz.prog 153 #[.string tag, drw h c, .string s, nilS] w fun e w' => e = .returned (.tuple #[hashV (tagB (txt tag) (frameE h (txt s) [])), .int .i64 0]) ∧ Up w w' := by
  obtain ⟨F, hF⟩ : ∃ F, frameE h (txt s) [] = F := ⟨_, rfl⟩
  have HF : Hid (F = encList [encBytes (hList h), encBytes (txt s)]) := hid hF.symm
  have hFl : F.length ≤ 16384 := by rw [← hF, frameE_length, txt_length]; have := hs.max; simp; omega
  have hFb : ∀ x ∈ F, 0 ≤ x ∧ x ≤ 255 := by
    rw [← hF]
    exact frameE_byt hB (txt_byt s) (fun e he => by
      simp at he)
  have HTg := hid (fun w' (v' : Value) (hU : Up w w') (hv' : SeqAt .u8 w' v' F) => Tagged_any tag v' F w' (hT.up hU) ht0 ht1 hv' (by omega) hFb)
  rw [hF]
  generalize tagB (txt tag) F = R at *
  have HL := hid hs
  have HBh := hid hB
  have HFl := hid hFl
  have hget := fun i (hi : i < 32) => drwA_get h c hi
  have HG := hid hget
  have d2 : s.size ≤ 24 := hs.max
  have hcv := fun w' => run_bytes_of_string (P := Tryz.prog) w' 9 25 5 s Tryz.underlying9 Tryz.underlying25 Tryz.underlying5
  unfold drw
  generalize drwA h c = cs at *
  clear hT hB ht0 ht1 hs hF hFl hFb hget
  obtain ⟨o, ho⟩ : ∃ o, w.heap.size = o := ⟨_, rfl⟩
  have HO := hid ho
  obtain ⟨o1, ho1⟩ : ∃ o1, o + 1 = o1 := ⟨_, rfl⟩
  have HO1 := hid ho1
  obtain ⟨o2, ho2⟩ : ∃ o2, o1 + 1 = o2 := ⟨_, rfl⟩
  have HO2 := hid ho2
  obtain ⟨o3, ho3⟩ : ∃ o3, o2 + 1 = o3 := ⟨_, rfl⟩
  have HO3 := hid ho3
  clear ho ho1 ho2 ho3
  go_enter Tryz.func153, Tryz.ntmps153
  go_wp2_with (at_builtin; refine stopHere ?_)
  clear hcv
  unfold Hid
  generalize hcp : grownCap _ _ _ _ = cp
  generalize hW : World.alloc _ _ = w0
  have hc0 : s.size ≤ cp := by rw [← hcp]; exact cap_ge
  have hc1 : cp ≤ 9223372036854775807 := by rw [← hcp]; exact cap_le (by omega)
  have HU0 : Hid (Up w w0.drew) := hid (by rw [← hW]; exact (((((Up.refl w).alloc _).alloc _).alloc _).alloc _).drew)
  have HS0 : Hid (Blk w0.drew o 127 cs) := hid (by rw [← hW]; exact ((((Blk.new HO.out rfl).alloc _).alloc _).alloc _).up (Up.refl _).drew)
  have HZ0 : Hid (Blk w0.drew o1 55 (arrK .u8 (fun _ => 0) 32)) := hid (by rw [← hW]; exact (((Blk.new (by have := HO.out; have := HO1.out; simp; omega) zero32h).alloc _).alloc _).up (Up.refl _).drew)
  have HX0 : Hid (SeqAt .u8 w0.drew (.slice (some ⟨o2, 0, none⟩) s.size cp) (txt s)) := hid (by
    rw [← hW]
    have h := seq_text ((w.alloc (.cells cs 127)).alloc (.cells #[.int .u8 0, .int .u8 0, .int .u8 0, .int .u8 0, .int .u8 0, .int .u8 0, .int .u8 0, .int .u8 0, .int .u8 0, .int .u8 0, .int .u8 0, .int .u8 0, .int .u8 0, .int .u8 0, .int .u8 0, .int .u8 0, .int .u8 0, .int .u8 0, .int .u8 0, .int .u8 0, .int .u8 0, .int .u8 0, .int .u8 0, .int .u8 0, .int .u8 0, .int .u8 0, .int .u8 0, .int .u8 0, .int .u8 0, .int .u8 0, .int .u8 0, .int .u8 0] 55)) s cp 5 ((bytesRow s cp).size, (bytesRow s cp).size + 1) hc0 hc1
    rw [show ((w.alloc (.cells cs 127)).alloc (.cells #[.int .u8 0, .int .u8 0, .int .u8 0, .int .u8 0, .int .u8 0, .int .u8 0, .int .u8 0, .int .u8 0, .int .u8 0, .int .u8 0, .int .u8 0, .int .u8 0, .int .u8 0, .int .u8 0, .int .u8 0, .int .u8 0, .int .u8 0, .int .u8 0, .int .u8 0, .int .u8 0, .int .u8 0, .int .u8 0, .int .u8 0, .int .u8 0, .int .u8 0, .int .u8 0, .int .u8 0, .int .u8 0, .int .u8 0, .int .u8 0, .int .u8 0, .int .u8 0] 55)).heap.size = o2 by have := HO.out; have := HO1.out; have := HO2.out; simp; omega] at h
    exact (h.up ((Up.refl _).alloc _)).up (Up.refl _).drew)
  have HQ0 : Hid (OwnQ 142 w0.drew o3 (.slice (some ⟨o3, 0, none⟩) 2 2) (frQ o o2 s.size cp)) := hid (by
    rw [← hW, HO.out, HO1.out, HO2.out]
    exact (own_two (by have := HO.out; have := HO1.out; have := HO2.out; have := HO3.out; simp; omega) (Nat.le_refl _)).up (Up.refl _).drew)
  rw [HO.out, HO1.out, HO2.out, HO3.out]
  clear hcp hW
  have hz : o3 ≤ w0.drew.heap.size := by have := OwnQ.inside HQ0.out o3 rfl; omega
  generalize w0.drew = w1 at *
  refine wp_appQ_none infoItm Tryz.underlying140 rfl _ _ rfl o3 rfl HQ0.out rfl ?_
  have HIt : Hid (ItmAt w1 7 3 0 nilS (.slice (some ⟨o3, 0, none⟩) 2 2) F) := hid (by
    rw [HF.out]
    exact itm_list (HQ0.out.row (frQ_at HS0.out HG.out HBh.out HX0.out d2)) (by simp))
  have HU3 := HU0
  have HZ3 := HZ0
  clear HX0 HS0 HQ0 HU0 HZ0 hz
  go_wp2_with fail
  refine (Encode_short HIt.out (by omega) HFl.out).mono ?_
  rintro e w4 ⟨v4, rfl, hO4, hU4⟩
  have HO4 := hid hO4.seq
  have HZ4 := hid (HZ3.out.up hU4)
  have HU4 := hid (HU3.out.trans hU4)
  clear hO4 hU4 HZ3 HU3 HIt
  go_wp2_with fail
  refine (HTg.out _ _ HU4.out HO4.out).mono ?_
  rintro e w5 ⟨rfl, hU5⟩
  have HZ5 := hid (HZ4.out.up hU5)
  have HU5 := hid (HU4.out.trans hU5)
  clear hU5 HZ4 HU4 HO4
  unfold hashV
  go_wp2_with (first | (refine wpList_store_rowTo rfl 55 _ _ rfl rfl o1 (arrK .u8 R 32) rfl rfl 55 (arrK .u8 (fun _ => 0) 32) HZ5.out (by rw [arrK_size]; kernel_rfl) (by rw [arrK_size, arrK_size]) arrK_one ?_))
  refine bodyPost_ret (v := .tuple #[.agg (arrK .u8 R 32), .int .i64 0]) (results_row_tmp Tryz.results153 _ _ o1 55 _ (0, 0) _ (by rfl) (HZ5.out.row _) Tryz.underlying55 rfl (by rw [arrK_size]; kernel_rfl)) rfl ⟨rfl, HU5.out.setRow (by have := HO.out; have := HO1.out; omega) _⟩

end Go.Proofs.YtoaomjdpiealfaaGreatDoor
