/- Restrictive signatures: factors, lists of elements, products, views. The reference's restrictive signatures: factors, views. -/
import Derived.Test.YtdlcmpbpdbpanaaDoorMRestrictChallenges39
namespace Go.Proofs.YtdlcmpbpdbpanaaDoor
open Go.RowKit Go.Sp
set_option maxHeartbeats 2000000
set_option maxRecDepth 20000

theorem nums_three {w : World} {r : Nat} {x y z : Int} {t : TypeId} (hr : w.heap.size = r) : GrpAt (w.alloc (.cells #[.int .i64 x, .int .i64 y, .int .i64 z] t)) r x y z := by
  subst hr
  exact ⟨by go_simp, by go_simp, by go_simp⟩
theorem nums_six {w : World} {r : Nat} {x y z a b c : Int} {t : TypeId} (hr : w.heap.size = r) : BasAt (w.alloc (.cells #[.int .i64 x, .int .i64 y, .int .i64 z, .int .i64 a, .int .i64 b, .int .i64 c] t)) r x y z a b c := by
  subst hr
  exact ⟨⟨by go_simp, by go_simp, by go_simp⟩, by go_simp, by go_simp, by go_simp⟩

/-- Valid blinding factors. -/
def facB (Q s u v : Int) : Bool := nzB Q s && (nzB Q u && exB Q v)

/-- Bases and factors, in two boxes. -/
def TwoAt (w : World) (o : Nat) (P Q G A B C s u v : Int) : Prop := BasAt w o P Q G A B C ∧ GrpAt w (o + 1) s u v
theorem TwoAt.up {w w' : World} {o : Nat} {P Q G A B C s u v : Int} (h : TwoAt w o P Q G A B C s u v) (hU : Up w w') : TwoAt w' o P Q G A B C s u v := ⟨h.1.up hU, h.2.up hU⟩

theorem resElements_any (P Q G A B C : Int) (v : Value) (xs : List Int) (w : World) (g1 : P < 2305843009213693952) (g3 : 0 ≤ Q) (hQ : Q ≤ 9223372036854775807) (hv : IntsAt w v xs) :
    Calls Tryd.prog 78 #[bas P Q G A B C, v] w fun e w' => e = .returned (.bool (xs.all (elB P Q))) ∧ Up w w' := by
  obtain ⟨l1, a1, cp1, rfl, hc1⟩ := hv
  have HC1 := hid hc1
  obtain ⟨X, hX⟩ : ∃ X, xs.all (elB P Q) = X := ⟨_, rfl⟩
  have HX := hid hX
  obtain ⟨n, hn⟩ : ∃ n, xs.length = n := ⟨_, rfl⟩
  have HN := hid hn
  rw [hX]
  rw [hn] at l1
  rw [hn]
  have HBd : Hid (∀ i, i < n → (elB P Q) (xs.getD i 0) = false → X = false) := hid (fun i hi h => by rw [← HX.out]; exact not_all (by rw [HN.out]; exact hi) h)
  clear hc1 hX hn
  go_enter Tryd.func78, Tryd.ntmps78
  go_wp2_with fail
  have HG0 := hid (bas_reads (w := w) (o := .cells #[.int .i64 P, .int .i64 Q, .int .i64 G, .int .i64 A, .int .i64 B, .int .i64 C] 54) rfl (Up.refl _))
  have HU0 := hid ((Up.refl w).alloc (.cells #[.int .i64 P, .int .i64 Q, .int .i64 G, .int .i64 A, .int .i64 B, .int .i64 C] 54))
  obtain ⟨o, ho⟩ : ∃ o, w.heap.size = o := ⟨_, rfl⟩
  rw [ho] at HG0
  rw [ho]
  clear ho
  go_loopw [9] (fun vi wr => ∃ i : Nat, i ≤ n ∧ vi = .int .i64 i ∧ Hid (∀ j, j < i → (elB P Q) (xs.getD j 0) = true) ∧ Hid (Up w wr) ∧ Hid (BasAt wr o P Q G A B C)) (fun vi _ => n - (intOf vi).toNat)
  case atStart => exact ⟨0, by omega, rfl, hid (fun j hj => by omega), HU0, HG0⟩
  case round =>
    obtain ⟨i, hi, rfl, HG, HU, HGr⟩ := hrel
    obtain ⟨⟨c0, c1, c2⟩, c3, c4, c5⟩ := HGr.out
    by_cases hl : i < n
    · have hl1 : i < xs.length := by rw [HN.out]; exact hl
      obtain ⟨b1, o1, rfl, k1⟩ := ints_cell HC1.out HU.out hl1
      have HBi := hid (HBd.out i hl)
      have HS : Hid ((elB P Q) (xs.getD i 0) = true → ∀ j, j < i + 1 → (elB P Q) (xs.getD j 0) = true) := hid (fun h j hj => by
        rcases Nat.lt_or_ge j i with h3 | h3
        · exact HG.out j h3
        · obtain rfl : j = i := by omega
          exact h)
      clear hl1 HG
      generalize xs.getD i 0 = x at *
      go_wp2_with fail
      refine (resElement_any P Q G A B C x _ g1 g3 hQ).mono ?_
      rintro e w3 ⟨rfl, hU3⟩
      have HU3 := hid (HU.out.trans hU3)
      have HG3 := hid (HGr.out.up hU3)
      clear hU3 c0 c1 c2 c3 c4 c5
      by_cases hx : (elB P Q) x = true
      · have Hx := hid hx
        rw [hx]
        clear hx
        go_wp2_with fail
        go_roundw
        case rel => exact ⟨i + 1, by omega, by go_num, hid (HS.out Hx.out), HU3, HG3⟩
        case measure => simp [intOf]; omega
      · have hx' : (elB P Q) x = false := by simpa using hx
        obtain rfl := HBi.out hx'
        rw [hx']
        clear hx hx'
        go_wp2
        go_ret
        exact ⟨rfl, HU3.out⟩
    · obtain rfl : i = n := by omega
      have hX : X = true := by rw [← HX.out]; exact all_of (by rw [HN.out]; exact HG.out)
      subst hX
      go_wp2
      go_ret
      exact ⟨rfl, HU.out⟩

theorem pwi_one {P b : Int} (h0 : 0 ≤ b) (h1 : b < P) : pwi P b 1 = b := by
  show pw b 1 P = b
  exact pw_one_exp h0 h1

/-- A view as a value. -/
abbrev vw (m z x y c r : Int) : Value := .agg #[.int .i64 m, .int .i64 z, .int .i64 x, .int .i64 y, .int .i64 c, .int .i64 r]
/-- What holds of a right view, beyond the ranges. -/
def cvE (P G k1 m z x y c r : Int) : Bool := pwi P G r == pwi P k1 c * x % P && pwi P m r == pwi P z c * y % P
/-- A right view. -/
def cvB (P Q G A B C k1 k2 k3 m z x y c r : Int) : Bool :=
  kvB P Q G A B C k1 k2 k3 && (gnB P Q m && (elB P Q z && (elB P Q x && (elB P Q y && (nzB Q c && (exB Q r && cvE P G k1 m z x y c r))))))

/-- Bases, a key and a view, in three boxes. -/
def ViewsAt (w : World) (o : Nat) (P Q G A B C k1 k2 k3 m z x y c r : Int) : Prop := BasAt w o P Q G A B C ∧ GrpAt w (o + 1) k1 k2 k3 ∧ BasAt w (o + 2) m z x y c r
theorem ViewsAt.up {w w' : World} {o : Nat} {P Q G A B C k1 k2 k3 m z x y c r : Int} (h : ViewsAt w o P Q G A B C k1 k2 k3 m z x y c r) (hU : Up w w') : ViewsAt w' o P Q G A B C k1 k2 k3 m z x y c r := ⟨h.1.up hU, h.2.1.up hU, h.2.2.up hU⟩
theorem views_new {w : World} {o : Nat} {t t1 t2 : TypeId} {P Q G A B C k1 k2 k3 m z x y c r : Int} (ho : w.heap.size = o) :
    ViewsAt (((w.alloc (.cells #[.int .i64 P, .int .i64 Q, .int .i64 G, .int .i64 A, .int .i64 B, .int .i64 C] t)).alloc (.cells #[.int .i64 k1, .int .i64 k2, .int .i64 k3] t1)).alloc (.cells #[.int .i64 m, .int .i64 z, .int .i64 x, .int .i64 y, .int .i64 c, .int .i64 r] t2)) o P Q G A B C k1 k2 k3 m z x y c r :=
  ⟨(nums_six ho).up (((Up.refl _).alloc _).alloc _), (nums_three (by simp [ho])).up ((Up.refl _).alloc _), nums_six (by simp [ho])⟩

end Go.Proofs.YtdlcmpbpdbpanaaDoor
namespace Go.Proofs.YtdlcmpbpdbpanaaDoor
open Go.RowKit Go.Sp
set_option maxHeartbeats 2000000
set_option maxRecDepth 20000

/-- Bases, a key, a view and a group, in four boxes. -/
def FourAt (w : World) (o : Nat) (P Q G A B C k1 k2 k3 m z x y c r : Int) : Prop := ViewsAt w o P Q G A B C k1 k2 k3 m z x y c r ∧ GrpAt w (o + 3) P Q G
theorem FourAt.up {w w' : World} {o : Nat} {P Q G A B C k1 k2 k3 m z x y c r : Int} (h : FourAt w o P Q G A B C k1 k2 k3 m z x y c r) (hU : Up w w') : FourAt w' o P Q G A B C k1 k2 k3 m z x y c r := ⟨h.1.up hU, h.2.up hU⟩

end Go.Proofs.YtdlcmpbpdbpanaaDoor
