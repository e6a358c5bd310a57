/- The reference's restrictive signatures: factors, views. Restrictive signatures: unblinding, in the program and in the reference. A region that draws its order and ends in a store: what the loads read is kept as far as the last operation, which waits for all others. Over any program. -/
import Derived.Test.YtdlcmpbpdbpanaaDoorMSignatureFits23
import Derived.Test.YtdlcmpbpdbpanaaDoorMSignatureFits11
import Derived.Deep.RegionHeld3
namespace Go.Proofs.YtdlcmpbpdbpanaaDoor
open Go.RowKit Go.Sp
set_option maxHeartbeats 2000000
set_option maxRecDepth 20000

/-- Bases, a key, a view and a group, in four boxes. -/
def FourAt (w : World) (o : Nat) (P Q G A B C k1 k2 k3 m z x y c r : Int) : Prop := ViewsAt w o P Q G A B C k1 k2 k3 m z x y c r ∧ GrpAt w (o + 3) P Q G
theorem FourAt.up {w w' : World} {o : Nat} {P Q G A B C k1 k2 k3 m z x y c r : Int} (h : FourAt w o P Q G A B C k1 k2 k3 m z x y c r) (hU : Up w w') : FourAt w' o P Q G A B C k1 k2 k3 m z x y c r := ⟨h.1.up hU, h.2.up hU⟩

end Go.Proofs.YtdlcmpbpdbpanaaDoor
namespace Go.Proofs.YtdlcmpbpdbpanaaDoor
open Go.RowKit Go.Sp
set_option maxHeartbeats 2000000
set_option maxRecDepth 20000

/-- A signature as a value. -/
abbrev sgn (a b c d : Int) : Value := .agg #[.int .i64 a, .int .i64 b, .int .i64 c, .int .i64 d]
/-- The error of unblinding. -/
def unE (P Q G A B C k1 k2 k3 m z x y c r s u v : Int) : Int := if kvB P Q G A B C k1 k2 k3 = true then (if facB Q s u v = true then (if cvB P Q G A B C k1 k2 k3 m z x y c r = true then 0 else 11) else 2) else 1

theorem up_eq {a b : World} (h : a = b) : Up a b := h ▸ Up.refl _
theorem blk_four {w : World} {b : Nat} {t : TypeId} {p q e d : Value} (h : Blk w b t #[p, q, e, d]) (x y z u : Value) : Blk ((((w.setCell ⟨b, 0, none⟩ x).setCell ⟨b, 1, none⟩ y).setCell ⟨b, 2, none⟩ z).setCell ⟨b, 3, none⟩ u) b t #[x, y, z, u] :=
  (((h.wrote 0 x).wrote 1 y).wrote 2 z).wrote 3 u

/-- The boxes of Unblind. -/
def UnbAt (w : World) (o : Nat) (P Q G A B C k1 k2 k3 m z x y c r sz sa sb sr s u v : Int) : Prop :=
  ViewsAt w o P Q G A B C k1 k2 k3 m z x y c r ∧ Blk w (o + 3) 56 #[.int .i64 sz, .int .i64 sa, .int .i64 sb, .int .i64 sr] ∧ GrpAt w (o + 4) s u v
theorem UnbAt.up {w w' : World} {o : Nat} {P Q G A B C k1 k2 k3 m z x y c r sz sa sb sr s u v : Int} (h : UnbAt w o P Q G A B C k1 k2 k3 m z x y c r sz sa sb sr s u v) (hU : Up w w') : UnbAt w' o P Q G A B C k1 k2 k3 m z x y c r sz sa sb sr s u v := ⟨h.1.up hU, h.2.1.up hU, h.2.2.up hU⟩
/-- The boxes of Unblind, and its result. -/
def ResAt (w : World) (o : Nat) (P Q G A B C k1 k2 k3 m z x y c r sz sa sb sr s u v : Int) : Prop := UnbAt w o P Q G A B C k1 k2 k3 m z x y c r sz sa sb sr s u v ∧ Blk w (o + 5) 56 #[.int .i64 0, .int .i64 0, .int .i64 0, .int .i64 0]
theorem ResAt.up {w w' : World} {o : Nat} {P Q G A B C k1 k2 k3 m z x y c r sz sa sb sr s u v : Int} (h : ResAt w o P Q G A B C k1 k2 k3 m z x y c r sz sa sb sr s u v) (hU : Up w w') : ResAt w' o P Q G A B C k1 k2 k3 m z x y c r sz sa sb sr s u v := ⟨h.1.up hU, h.2.up hU⟩

theorem keepC9 {w0 w w' : World} {o : Nat} {P Q G A B C r u v : Int} (hU : Up w w') (h : w.cell? ⟨o, 0, none⟩ = some (.int .i64 P) ∧ w.cell? ⟨o, 1, none⟩ = some (.int .i64 Q) ∧ w.cell? ⟨o, 2, none⟩ = some (.int .i64 G) ∧ w.cell? ⟨o, 3, none⟩ = some (.int .i64 A) ∧ w.cell? ⟨o, 4, none⟩ = some (.int .i64 B) ∧ w.cell? ⟨o, 5, none⟩ = some (.int .i64 C) ∧ w.cell? ⟨o + 2, 5, none⟩ = some (.int .i64 r) ∧ w.cell? ⟨o + 4, 1, none⟩ = some (.int .i64 u) ∧ w.cell? ⟨o + 4, 2, none⟩ = some (.int .i64 v) ∧ Hid (Up w0 w)) :
    w'.cell? ⟨o, 0, none⟩ = some (.int .i64 P) ∧ w'.cell? ⟨o, 1, none⟩ = some (.int .i64 Q) ∧ w'.cell? ⟨o, 2, none⟩ = some (.int .i64 G) ∧ w'.cell? ⟨o, 3, none⟩ = some (.int .i64 A) ∧ w'.cell? ⟨o, 4, none⟩ = some (.int .i64 B) ∧ w'.cell? ⟨o, 5, none⟩ = some (.int .i64 C) ∧ w'.cell? ⟨o + 2, 5, none⟩ = some (.int .i64 r) ∧ w'.cell? ⟨o + 4, 1, none⟩ = some (.int .i64 u) ∧ w'.cell? ⟨o + 4, 2, none⟩ = some (.int .i64 v) ∧ Hid (Up w0 w') :=
  ⟨cellUp hU h.1, cellUp hU h.2.1, cellUp hU h.2.2.1, cellUp hU h.2.2.2.1, cellUp hU h.2.2.2.2.1, cellUp hU h.2.2.2.2.2.1, cellUp hU h.2.2.2.2.2.2.1, cellUp hU h.2.2.2.2.2.2.2.1, cellUp hU h.2.2.2.2.2.2.2.2.1, hid (h.2.2.2.2.2.2.2.2.2.out.trans hU)⟩
theorem keepC9Store {w0 w w' : World} {o : Nat} {P Q G A B C r u v : Int} {t : Value} (hb : w0.heap.size ≤ o) (hw : w' = w.setCell ⟨o + 3, 3, none⟩ t) (h : w.cell? ⟨o, 0, none⟩ = some (.int .i64 P) ∧ w.cell? ⟨o, 1, none⟩ = some (.int .i64 Q) ∧ w.cell? ⟨o, 2, none⟩ = some (.int .i64 G) ∧ w.cell? ⟨o, 3, none⟩ = some (.int .i64 A) ∧ w.cell? ⟨o, 4, none⟩ = some (.int .i64 B) ∧ w.cell? ⟨o, 5, none⟩ = some (.int .i64 C) ∧ w.cell? ⟨o + 2, 5, none⟩ = some (.int .i64 r) ∧ w.cell? ⟨o + 4, 1, none⟩ = some (.int .i64 u) ∧ w.cell? ⟨o + 4, 2, none⟩ = some (.int .i64 v) ∧ Hid (Up w0 w)) :
    w'.cell? ⟨o, 0, none⟩ = some (.int .i64 P) ∧ w'.cell? ⟨o, 1, none⟩ = some (.int .i64 Q) ∧ w'.cell? ⟨o, 2, none⟩ = some (.int .i64 G) ∧ w'.cell? ⟨o, 3, none⟩ = some (.int .i64 A) ∧ w'.cell? ⟨o, 4, none⟩ = some (.int .i64 B) ∧ w'.cell? ⟨o, 5, none⟩ = some (.int .i64 C) ∧ w'.cell? ⟨o + 2, 5, none⟩ = some (.int .i64 r) ∧ w'.cell? ⟨o + 4, 1, none⟩ = some (.int .i64 u) ∧ w'.cell? ⟨o + 4, 2, none⟩ = some (.int .i64 v) ∧ Hid (Up w0 w') := by
  subst hw
  have key : ∀ k i, k ≠ o + 3 → (w.setCell ⟨o + 3, 3, none⟩ t).cell? ⟨k, i, none⟩ = w.cell? ⟨k, i, none⟩ := fun k i hk => by
    rw [World.cell?_setCell_other]; exact fun h => hk (congrArg Addr.block h).symm
  exact ⟨(key _ _ (by omega)).trans h.1, (key _ _ (by omega)).trans h.2.1, (key _ _ (by omega)).trans h.2.2.1, (key _ _ (by omega)).trans h.2.2.2.1, (key _ _ (by omega)).trans h.2.2.2.2.1, (key _ _ (by omega)).trans h.2.2.2.2.2.1, (key _ _ (by omega)).trans h.2.2.2.2.2.2.1, (key _ _ (by omega)).trans h.2.2.2.2.2.2.2.1, (key _ _ (by omega)).trans h.2.2.2.2.2.2.2.2.1, hid (h.2.2.2.2.2.2.2.2.2.out.setCell (show w0.heap.size ≤ o + 3 by omega) _)⟩
theorem up9 {w1 w : World} {a b c d e f g h i : Prop} (hs : a ∧ b ∧ c ∧ d ∧ e ∧ f ∧ g ∧ h ∧ i ∧ Hid (Up w1 w)) : Up w1 w := hs.2.2.2.2.2.2.2.2.2.out

end Go.Proofs.YtdlcmpbpdbpanaaDoor
namespace Go.Sp
open Go.RowKit

section
variable {P : Program} {ops : Array Oper} {Q : Exit → Act → World → Prop} {S : World → Prop} {last : Nat}

/-- Whatever comes up next, S holds behind it, but behind the last operation. -/
def anyE (P : Program) (ops : Array Oper) (Q : Exit → Act → World → Prop) (S : World → Prop) (last : Nat) : Nat → Array Bool → Act → World → Prop
  | 0, listed, a, w => Region.ready .any ops listed = [] ∧ Q .normal a w
  | n + 1, listed, a, w => (Region.ready .any ops listed = [] → Q .normal a w) ∧ ∀ j ∈ Region.ready .any ops listed, wpOp P ops Q j (fun b u => (j = last ∨ S u) ∧ anyE P ops Q S last n (listed.setIfInBounds j true) b u) a w

theorem any_of_E : ∀ (n : Nat) (listed : Array Bool) (a : Act) (w : World), anyE P ops Q S last n listed a w → wpAny P .any ops Q n listed a w
  | 0, _, _, _, h => h
  | n + 1, _, _, _, h => ⟨h.1, fun j hj => wpOp_mono (fun b u k => any_of_E n _ b u k.2) (h.2 j hj)⟩

/-- The last operation waits for all others. -/
def endB (ops : Array Oper) (last : Nat) : Bool := (List.range ops.size).all fun i => i == last || (match ops[last]? with | some o => o.after.any fun e => Region.binds .any e && e.on == i | none => false)

theorem end_spec (h : endB ops last = true) {listed : Array Bool} (hr : last ∈ Region.ready .any ops listed) {i : Nat} (hi : i < ops.size) (hne : i ≠ last) : listed.getD i false = true := by
  have h1 := List.all_eq_true.1 h i (List.mem_range.2 hi)
  obtain ⟨_, o, ho, hall⟩ := mem_ready.1 hr
  simp only [ho, Bool.or_eq_true, beq_iff_eq] at h1
  rcases h1 with h1 | h1
  · exact absurd h1 hne
  · obtain ⟨e, he, hb⟩ := Array.any_eq_true'.1 h1
    simp only [Bool.and_eq_true, beq_iff_eq] at hb
    rw [← hb.2]
    exact hall e he hb.1

theorem unlisted {listed : Array Bool} {i : Nat} (h : listed.getD i true = false) : listed.getD i false = false := by
  by_cases hi : i < listed.size
  · simp [hi] at h ⊢; exact h
  · simp [hi] at h

/-- What yields under S may be taken first. -/
theorem anyE_take {i : Nat} {o : Oper} {v : Value} (d : Tmp) (ho : ops[i]? = some o) (hd : o.dst = some d) (hs : Region.noSelect ops = true) (he : endB ops last = true) (hil : i ≠ last) (hQ : ∀ c a w, Q (.panic c) (a.put (some d) v) w → Q (.panic c) a w) :
    ∀ {n : Nat} {listed : Array Bool} {a : Act} {w : World}, Region.free .any ops listed i = true → (Region.ready .any ops listed).contains i = true → YieldsIf P ops S o v a → S w →
      anyE P ops Q S last n (listed.setIfInBounds i true) (a.put (some d) v) w → anyE P ops Q S last (n + 1) listed a w := by
  rw [← hd] at hQ ⊢
  have hsz : i < ops.size := (Array.getElem?_eq_some_iff.1 ho).1
  intro n
  have key : ∀ (n : Nat) (listed : Array Bool) (a : Act) (w : World), (∀ j oj, ops[j]? = some oj → j ≠ i → listed.getD j true = false → (∀ e ∈ oj.after, Region.binds .any e = true → e.on ≠ i) → o.apart ops oj = true) → i ∈ Region.ready .any ops listed → YieldsIf P ops S o v a → S w →
      anyE P ops Q S last n (listed.setIfInBounds i true) (a.put o.dst v) w → anyE P ops Q S last (n + 1) listed a w := by
    intro n
    induction n with
    | zero =>
      intro listed a w _ hr hy hS h
      refine ⟨fun h0 => absurd hr (by rw [h0]; simp), fun j hj => ?_⟩
      by_cases hji : j = i
      · subst hji
        exact hy.wpOp ho hS ⟨.inr hS, h⟩
      · exact absurd (ready_mono hj hji) (by rw [h.1]; simp)
    | succ n ih =>
      intro listed a w hf hr hy hS h
      refine ⟨fun h0 => absurd hr (by rw [h0]; simp), fun j hj => ?_⟩
      by_cases hji : j = i
      · subst hji
        exact hy.wpOp ho hS ⟨.inr hS, h⟩
      have hun := (mem_ready.1 hr).1
      have hjl : j ≠ last := fun hl => by
        subst hl
        have := end_spec he hj hsz (fun h => hil h)
        rw [unlisted hun] at this
        cases this
      obtain ⟨hju, oj, hoj, hall⟩ := mem_ready.1 hj
      have hno : ∀ e ∈ oj.after, Region.binds .any e = true → e.on ≠ i := fun e hm hb hx => by
        have := hall e hm hb
        rw [hx, unlisted hun] at this
        cases this
      have hstep := wpOp_putIf hoj (hf j oj hoj hji hju hno) (fun cs b => Region.noSelect_spec hs i o cs b ho) (fun cs b => Region.noSelect_spec hs j oj cs b hoj) hQ hy (h.2 j (ready_mono hj hji))
      refine wpOp_mono (fun b u k => ?_) hstep
      obtain ⟨hy2, hSu, hrest⟩ := k
      have hSu' : S u := by
        rcases hSu with hSu | hSu
        · exact absurd hSu hjl
        · exact hSu
      refine ⟨.inr hSu', ih _ b u (fun k ok hk hki hku hkn => hf k ok hk hki ?_ hkn) (ready_mono hr (Ne.symm hji)) hy2 hSu' ?_⟩
      · by_cases hjk : j = k
        · subst hjk; exact hju
        · rw [getD_set_ne true hjk] at hku; exact hku
      · rw [Array.setIfInBounds_comm _ _ hji]
        exact hrest
  intro listed a w hf hr hy hS h
  exact key n listed a w (fun j oj h1 h2 h3 h4 => Region.free_spec ho hf j oj h1 h2 h3 h4) (by simpa using hr) hy hS h

/-- One alone may come up. -/
theorem anyE_one {i : Nat} {o : Oper} {n : Nat} {listed : Array Bool} {a : Act} {w : World} (ho : ops[i]? = some o) (hr : Region.ready .any ops listed = [i]) (hg : o.guard = none)
    (h : ∀ K : Act → World → Prop, Hid (∀ b u, (i = last ∨ S u) → anyE P ops Q S last n (listed.setIfInBounds i true) b u → K b u) → o.wp P a w K Q) : anyE P ops Q S last (n + 1) listed a w := by
  refine ⟨fun h0 => (by rw [hr] at h0; cases h0), fun j hj => ?_⟩
  rw [hr] at hj
  obtain rfl : j = i := by simpa using hj
  unfold wpOp
  simp only [ho]
  rw [if_pos (by simp [Region.wanted, hg])]
  exact .inl (h _ (hid fun b u hS k => ⟨hS, k⟩))

theorem anyE_done {listed : Array Bool} {a : Act} {w : World} (hr : Region.ready .any ops listed = []) (h : Q .normal a w) : ∀ n, anyE P ops Q S last n listed a w
  | 0 => ⟨hr, h⟩
  | _ + 1 => ⟨fun _ => h, by rw [hr]; simp⟩

theorem region_E {id : Nat} {a : Act} {w : World} (S : World → Prop) (last : Nat) (hm : P.follows .mixedOrders = true) (hS : S w.drew) (h : S w.drew → anyE P ops Q S last ops.size (Array.replicate ops.size false) a w.drew) : (Code.region id ops true).wp P Q a w :=
  wp_region_any hm (any_of_E _ _ _ _ (h hS))
end
end Go.Sp
