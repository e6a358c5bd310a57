/- Restrictive signatures: offers and answers. The reference's restrictive signatures: messages, keys, offers, answers. Restrictive signatures: factors, lists of elements, products, views. The reference's restrictive signatures: factors, views. Restrictive signatures: unblinding, in the program and in the reference. -/
import Derived.Test.YtkimojconidhlaaDoorMB12
import Derived.IntWalk
namespace Go.Proofs.YtkimojconidhlaaDoor
open Go.RowKit Go.Sp
set_option maxHeartbeats 2000000
set_option maxRecDepth 20000

theorem results_tmp4 {fn : Func} {t u v x : Tmp} (h : fn.results = #[.tmp t, .tmp u, .tmp v, .tmp x]) (tmps : Array Value) (P : Program) (w : World) :
    (results fn tmps).run P w = .ok (.tuple #[tmps.getD t undef, tmps.getD u undef, tmps.getD v undef, tmps.getD x undef]) w := by
  simp [results, h]

end Go.Proofs.YtkimojconidhlaaDoor
namespace Go.Proofs.YtkimojconidhlaaDoor
open Go.RowKit Go.Sp
set_option maxHeartbeats 2000000
set_option maxRecDepth 20000

theorem keepC5Store {w0 w w' : World} {o : Nat} {P Q G A B : Int} {x y z : Value} (hb : w0.heap.size ≤ o) (hw : w' = ((w.setCell ⟨o + 1, 0, none⟩ x).setCell ⟨o + 1, 1, none⟩ y).setCell ⟨o + 1, 2, none⟩ z)
    (h : w.cell? ⟨o + 2, 0, none⟩ = some (.int .i64 P) ∧ w.cell? ⟨o + 2, 1, none⟩ = some (.int .i64 Q) ∧ w.cell? ⟨o + 2, 2, none⟩ = some (.int .i64 G) ∧ w.cell? ⟨o, 3, none⟩ = some (.int .i64 A) ∧ w.cell? ⟨o, 4, none⟩ = some (.int .i64 B) ∧ Hid (Up w0 w)) :
    w'.cell? ⟨o + 2, 0, none⟩ = some (.int .i64 P) ∧ w'.cell? ⟨o + 2, 1, none⟩ = some (.int .i64 Q) ∧ w'.cell? ⟨o + 2, 2, none⟩ = some (.int .i64 G) ∧ w'.cell? ⟨o, 3, none⟩ = some (.int .i64 A) ∧ w'.cell? ⟨o, 4, none⟩ = some (.int .i64 B) ∧ Hid (Up w0 w') := by
  subst hw
  obtain ⟨h0, h1, h2, h3, h4, hU⟩ := h
  have key : ∀ k i, k ≠ o + 1 → (((w.setCell ⟨o + 1, 0, none⟩ x).setCell ⟨o + 1, 1, none⟩ y).setCell ⟨o + 1, 2, none⟩ z).cell? ⟨k, i, none⟩ = w.cell? ⟨k, i, none⟩ := fun k i hk => by
    rw [World.cell?_setCell_other, World.cell?_setCell_other, World.cell?_setCell_other] <;> exact fun h => hk (congrArg Addr.block h).symm
  refine ⟨(key _ _ (by omega)).trans h0, (key _ _ (by omega)).trans h1, (key _ _ (by omega)).trans h2, (key _ _ (by omega)).trans h3, (key _ _ (by omega)).trans h4, hid (((hU.out.setCell ?_ _).setCell ?_ _).setCell ?_ _)⟩ <;> exact Nat.le_succ_of_le hb

end Go.Proofs.YtkimojconidhlaaDoor
namespace Go.Proofs.YtkimojconidhlaaDoor
open Go.RowKit Go.Sp
set_option maxHeartbeats 2000000
set_option maxRecDepth 20000

theorem nums_three {w : World} {r : Nat} {x y z : Int} {t : TypeId} (hr : w.heap.size = r) : GrpAt (w.alloc (.cells #[.int .i64 x, .int .i64 y, .int .i64 z] t)) r x y z := by
  subst hr
  exact ⟨by go_simp, by go_simp, by go_simp⟩
theorem nums_six {w : World} {r : Nat} {x y z a b c : Int} {t : TypeId} (hr : w.heap.size = r) : BasAt (w.alloc (.cells #[.int .i64 x, .int .i64 y, .int .i64 z, .int .i64 a, .int .i64 b, .int .i64 c] t)) r x y z a b c := by
  subst hr
  exact ⟨⟨by go_simp, by go_simp, by go_simp⟩, by go_simp, by go_simp, by go_simp⟩

/-- Valid blinding factors. -/
def facB (Q s u v : Int) : Bool := nzB Q s && (nzB Q u && exB Q v)

/-- Bases and factors, in two boxes. -/
def TwoAt (w : World) (o : Nat) (P Q G A B C s u v : Int) : Prop := BasAt w o P Q G A B C ∧ GrpAt w (o + 1) s u v
theorem TwoAt.up {w w' : World} {o : Nat} {P Q G A B C s u v : Int} (h : TwoAt w o P Q G A B C s u v) (hU : Up w w') : TwoAt w' o P Q G A B C s u v := ⟨h.1.up hU, h.2.up hU⟩

theorem pwi_one {P b : Int} (h0 : 0 ≤ b) (h1 : b < P) : pwi P b 1 = b := by
  show pw b 1 P = b
  exact pw_one_exp h0 h1

/-- A view as a value. -/
abbrev vw (m z x y c r : Int) : Value := .agg #[.int .i64 m, .int .i64 z, .int .i64 x, .int .i64 y, .int .i64 c, .int .i64 r]
/-- What holds of a right view, beyond the ranges. -/
def cvE (P G k1 m z x y c r : Int) : Bool := pwi P G r == pwi P k1 c * x % P && pwi P m r == pwi P z c * y % P
/-- A right view. -/
def cvB (P Q G A B C k1 k2 k3 m z x y c r : Int) : Bool :=
  kvB P Q G A B C k1 k2 k3 && (gnB P Q m && (elB P Q z && (elB P Q x && (elB P Q y && (nzB Q c && (exB Q r && cvE P G k1 m z x y c r))))))

/-- Bases, a key and a view, in three boxes. -/
def ViewsAt (w : World) (o : Nat) (P Q G A B C k1 k2 k3 m z x y c r : Int) : Prop := BasAt w o P Q G A B C ∧ GrpAt w (o + 1) k1 k2 k3 ∧ BasAt w (o + 2) m z x y c r
theorem ViewsAt.up {w w' : World} {o : Nat} {P Q G A B C k1 k2 k3 m z x y c r : Int} (h : ViewsAt w o P Q G A B C k1 k2 k3 m z x y c r) (hU : Up w w') : ViewsAt w' o P Q G A B C k1 k2 k3 m z x y c r := ⟨h.1.up hU, h.2.1.up hU, h.2.2.up hU⟩
theorem views_new {w : World} {o : Nat} {t t1 t2 : TypeId} {P Q G A B C k1 k2 k3 m z x y c r : Int} (ho : w.heap.size = o) :
    ViewsAt (((w.alloc (.cells #[.int .i64 P, .int .i64 Q, .int .i64 G, .int .i64 A, .int .i64 B, .int .i64 C] t)).alloc (.cells #[.int .i64 k1, .int .i64 k2, .int .i64 k3] t1)).alloc (.cells #[.int .i64 m, .int .i64 z, .int .i64 x, .int .i64 y, .int .i64 c, .int .i64 r] t2)) o P Q G A B C k1 k2 k3 m z x y c r :=
  ⟨(nums_six ho).up (((Up.refl _).alloc _).alloc _), (nums_three (by simp [ho])).up ((Up.refl _).alloc _), nums_six (by simp [ho])⟩

end Go.Proofs.YtkimojconidhlaaDoor
namespace Go.Proofs.YtkimojconidhlaaDoor
open Go.RowKit Go.Sp
set_option maxHeartbeats 2000000
set_option maxRecDepth 20000

/-- Bases, a key, a view and a group, in four boxes. -/
def FourAt (w : World) (o : Nat) (P Q G A B C k1 k2 k3 m z x y c r : Int) : Prop := ViewsAt w o P Q G A B C k1 k2 k3 m z x y c r ∧ GrpAt w (o + 3) P Q G
theorem FourAt.up {w w' : World} {o : Nat} {P Q G A B C k1 k2 k3 m z x y c r : Int} (h : FourAt w o P Q G A B C k1 k2 k3 m z x y c r) (hU : Up w w') : FourAt w' o P Q G A B C k1 k2 k3 m z x y c r := ⟨h.1.up hU, h.2.up hU⟩

end Go.Proofs.YtkimojconidhlaaDoor
namespace Go.Proofs.YtkimojconidhlaaDoor
open Go.RowKit Go.Sp
set_option maxHeartbeats 2000000
set_option maxRecDepth 20000

/-- A signature as a value. -/
abbrev sgn (a b c d : Int) : Value := .agg #[.int .i64 a, .int .i64 b, .int .i64 c, .int .i64 d]
/-- The error of unblinding. -/
def unE (P Q G A B C k1 k2 k3 m z x y c r s u v : Int) : Int := if kvB P Q G A B C k1 k2 k3 = true then (if facB Q s u v = true then (if cvB P Q G A B C k1 k2 k3 m z x y c r = true then 0 else 11) else 2) else 1

theorem up_eq {a b : World} (h : a = b) : Up a b := h ▸ Up.refl _
theorem blk_four {w : World} {b : Nat} {t : TypeId} {p q e d : Value} (h : Blk w b t #[p, q, e, d]) (x y z u : Value) : Blk ((((w.setCell ⟨b, 0, none⟩ x).setCell ⟨b, 1, none⟩ y).setCell ⟨b, 2, none⟩ z).setCell ⟨b, 3, none⟩ u) b t #[x, y, z, u] :=
  (((h.wrote 0 x).wrote 1 y).wrote 2 z).wrote 3 u

theorem keepC9 {w0 w w' : World} {o : Nat} {P Q G A B C r u v : Int} (hU : Up w w') (h : w.cell? ⟨o, 0, none⟩ = some (.int .i64 P) ∧ w.cell? ⟨o, 1, none⟩ = some (.int .i64 Q) ∧ w.cell? ⟨o, 2, none⟩ = some (.int .i64 G) ∧ w.cell? ⟨o, 3, none⟩ = some (.int .i64 A) ∧ w.cell? ⟨o, 4, none⟩ = some (.int .i64 B) ∧ w.cell? ⟨o, 5, none⟩ = some (.int .i64 C) ∧ w.cell? ⟨o + 2, 5, none⟩ = some (.int .i64 r) ∧ w.cell? ⟨o + 4, 1, none⟩ = some (.int .i64 u) ∧ w.cell? ⟨o + 4, 2, none⟩ = some (.int .i64 v) ∧ Hid (Up w0 w)) :
    w'.cell? ⟨o, 0, none⟩ = some (.int .i64 P) ∧ w'.cell? ⟨o, 1, none⟩ = some (.int .i64 Q) ∧ w'.cell? ⟨o, 2, none⟩ = some (.int .i64 G) ∧ w'.cell? ⟨o, 3, none⟩ = some (.int .i64 A) ∧ w'.cell? ⟨o, 4, none⟩ = some (.int .i64 B) ∧ w'.cell? ⟨o, 5, none⟩ = some (.int .i64 C) ∧ w'.cell? ⟨o + 2, 5, none⟩ = some (.int .i64 r) ∧ w'.cell? ⟨o + 4, 1, none⟩ = some (.int .i64 u) ∧ w'.cell? ⟨o + 4, 2, none⟩ = some (.int .i64 v) ∧ Hid (Up w0 w') :=
  ⟨cellUp hU h.1, cellUp hU h.2.1, cellUp hU h.2.2.1, cellUp hU h.2.2.2.1, cellUp hU h.2.2.2.2.1, cellUp hU h.2.2.2.2.2.1, cellUp hU h.2.2.2.2.2.2.1, cellUp hU h.2.2.2.2.2.2.2.1, cellUp hU h.2.2.2.2.2.2.2.2.1, hid (h.2.2.2.2.2.2.2.2.2.out.trans hU)⟩
theorem keepC9Store {w0 w w' : World} {o : Nat} {P Q G A B C r u v : Int} {t : Value} (hb : w0.heap.size ≤ o) (hw : w' = w.setCell ⟨o + 3, 3, none⟩ t) (h : w.cell? ⟨o, 0, none⟩ = some (.int .i64 P) ∧ w.cell? ⟨o, 1, none⟩ = some (.int .i64 Q) ∧ w.cell? ⟨o, 2, none⟩ = some (.int .i64 G) ∧ w.cell? ⟨o, 3, none⟩ = some (.int .i64 A) ∧ w.cell? ⟨o, 4, none⟩ = some (.int .i64 B) ∧ w.cell? ⟨o, 5, none⟩ = some (.int .i64 C) ∧ w.cell? ⟨o + 2, 5, none⟩ = some (.int .i64 r) ∧ w.cell? ⟨o + 4, 1, none⟩ = some (.int .i64 u) ∧ w.cell? ⟨o + 4, 2, none⟩ = some (.int .i64 v) ∧ Hid (Up w0 w)) :
    w'.cell? ⟨o, 0, none⟩ = some (.int .i64 P) ∧ w'.cell? ⟨o, 1, none⟩ = some (.int .i64 Q) ∧ w'.cell? ⟨o, 2, none⟩ = some (.int .i64 G) ∧ w'.cell? ⟨o, 3, none⟩ = some (.int .i64 A) ∧ w'.cell? ⟨o, 4, none⟩ = some (.int .i64 B) ∧ w'.cell? ⟨o, 5, none⟩ = some (.int .i64 C) ∧ w'.cell? ⟨o + 2, 5, none⟩ = some (.int .i64 r) ∧ w'.cell? ⟨o + 4, 1, none⟩ = some (.int .i64 u) ∧ w'.cell? ⟨o + 4, 2, none⟩ = some (.int .i64 v) ∧ Hid (Up w0 w') := by
  subst hw
  have key : ∀ k i, k ≠ o + 3 → (w.setCell ⟨o + 3, 3, none⟩ t).cell? ⟨k, i, none⟩ = w.cell? ⟨k, i, none⟩ := fun k i hk => by
    rw [World.cell?_setCell_other]; exact fun h => hk (congrArg Addr.block h).symm
  exact ⟨(key _ _ (by omega)).trans h.1, (key _ _ (by omega)).trans h.2.1, (key _ _ (by omega)).trans h.2.2.1, (key _ _ (by omega)).trans h.2.2.2.1, (key _ _ (by omega)).trans h.2.2.2.2.1, (key _ _ (by omega)).trans h.2.2.2.2.2.1, (key _ _ (by omega)).trans h.2.2.2.2.2.2.1, (key _ _ (by omega)).trans h.2.2.2.2.2.2.2.1, (key _ _ (by omega)).trans h.2.2.2.2.2.2.2.2.1, hid (h.2.2.2.2.2.2.2.2.2.out.setCell (show w0.heap.size ≤ o + 3 by omega) _)⟩
theorem up9 {w1 w : World} {a b c d e f g h i : Prop} (hs : a ∧ b ∧ c ∧ d ∧ e ∧ f ∧ g ∧ h ∧ i ∧ Hid (Up w1 w)) : Up w1 w := hs.2.2.2.2.2.2.2.2.2.out

end Go.Proofs.YtkimojconidhlaaDoor
