/- The examples of layer 10. -/
import Derived.Test.YtldodbffdegmiaaDoorSortA
import Derived.Test.YtldodbffdegmiaaDoorBoxes
import Derived.LoopN
namespace Go.Proofs.YtldodbffdegmiaaDoor
open Go.RowKit Go.Sp Go.Sort
set_option maxHeartbeats 400000

theorem small10 (w : World) : Calls Tryd.prog 76 #[] w fun e w' => e = .returned (grp 23 11 4) ∧ Up w w' := by
  go_enter Tryd.func76, Tryd.ntmps76
  go_wp2
  go_returns
  exact ⟨rfl, ((Up.refl w).alloc _)⟩

theorem Make7 (w : World) (hT : Tab w) : Calls Tryd.prog 77 #[.int .i64 7] w fun e w' => e = .returned (.tuple #[grp 29 7 16, .int .i64 0]) ∧ Up w w' := by
  have HT := hid hT
  clear hT
  have h7 : isP 7 = true := by decide +kernel
  have h15 : isP 15 = false := by decide +kernel
  have h29 : isP 29 = true := by decide +kernel
  have hp : pw 2 (4 : Int).toNat 29 = 16 := by decide +kernel
  go_enter Tryd.func77, Tryd.ntmps77
  go_wp2_with fail
  refine (Is_any 7 _ (by omega) (HT.out.up ((Up.refl w).alloc _))).mono ?_
  rintro e w1 ⟨rfl, hU1⟩
  obtain ⟨hr1, hf1⟩ := hU1.reads
  have hs1 : w.heap.size < w1.heap.size := by have := hU1.size; simp at this; omega
  have hb0 : w1.cell? ⟨w.heap.size, 0, none⟩ = some (.int .i64 0) := by rw [hr1 _ _ (by simp)]; go_simp
  have hb1 : w1.cell? ⟨w.heap.size, 1, none⟩ = some (.int .i64 0) := by rw [hr1 _ _ (by simp)]; go_simp
  have hb2 : w1.cell? ⟨w.heap.size, 2, none⟩ = some (.int .i64 0) := by rw [hr1 _ _ (by simp)]; go_simp
  have hz : ∀ i, w1.frozen? ⟨w.heap.size, i, none⟩ = false := fun i => by rw [hf1 _ _ (by simp)]; go_simp
  have HU := hid (((Up.refl w).alloc _).trans hU1)
  clear hr1 hf1 hU1
  have HBox : Hid (∀ wr, Up w1 wr → (wr.cell? ⟨w.heap.size, 0, none⟩ = some (.int .i64 0) ∧ wr.cell? ⟨w.heap.size, 1, none⟩ = some (.int .i64 0) ∧ wr.cell? ⟨w.heap.size, 2, none⟩ = some (.int .i64 0)) ∧ ∀ i, wr.frozen? ⟨w.heap.size, i, none⟩ = false) := hid (fun wr hU =>
    ⟨⟨by rw [hU.cell (by show w.heap.size < w1.heap.size; omega)]; exact hb0, by rw [hU.cell (by show w.heap.size < w1.heap.size; omega)]; exact hb1, by rw [hU.cell (by show w.heap.size < w1.heap.size; omega)]; exact hb2⟩,
      fun i => by rw [hU.frozen (by show w.heap.size < w1.heap.size; omega)]; exact hz i⟩)
  clear hb0 hb1 hb2 hz
  have q1 : (2305843009213693950 : Int) / 7 = 329406144173384850 := by decide
  go_wp2_with fail
  go_loopw [4] (fun vk wr => (vk = .int .i64 2 ∨ vk = .int .i64 4) ∧ Up w1 wr) (fun vk _ => 4 - (intOf vk).toNat)
  case atStart => exact ⟨.inl rfl, Up.refl _⟩
  case round =>
    obtain ⟨hk, hU⟩ := hrel
    have HT2 := hid ((HT.out.up HU.out).up hU)
    rcases hk with rfl | rfl
    · go_wp2_with fail
      refine (Is_any 15 _ (by omega) HT2.out).mono ?_
      rintro e w2 ⟨rfl, hU2⟩
      go_wp2_with fail
      go_roundw
      case rel => exact ⟨.inr rfl, hU.trans hU2⟩
      case measure => simp [intOf]
    · go_wp2_with fail
      refine (Is_any 29 _ (by omega) HT2.out).mono ?_
      rintro e w2 ⟨rfl, hU2⟩
      have hU3 := hU.trans hU2
      clear hU hU2
      go_wp2_with fail
      go_loopw [6] (fun vh wr => vh = .int .i64 2 ∧ Up w1 wr) (fun vh _ => 0)
      case atStart => exact ⟨rfl, hU3⟩
      case round =>
        clear hU3
        obtain ⟨rfl, hU⟩ := hrel
        go_wp2_with fail
        refine (Pow_ok 2 4 29 _ (by omega) (by omega) (by omega) (by omega) (by omega)).mono ?_
        rintro e w4 ⟨rfl, hU4⟩
        obtain ⟨⟨c0, c1, c2⟩, cz⟩ := HBox.out _ (hU.trans hU4)
        rw [hp]
        go_wp2
        refine bodyPost_ret (v := .tuple #[grp 29 7 16, .int .i64 0]) (by simp [results, Tryd.results77, go_sem, c0, c1, c2]) rfl ⟨rfl, ?_⟩
        exact ((((HU.out.trans hU).trans hU4).setCell (Nat.le_refl _) _).setCell (Nat.le_refl _) _).setCell (Nat.le_refl _) _

theorem gv_small : gvB 23 11 4 = true := by decide +kernel

/-- Equal slices, as the shelf has it, for slices of any make. -/
theorem equal_any (v1 v2 : Value) (xs ys : List Int) (w : World) (h1 : IntsAt w v1 xs) (h2 : IntsAt w v2 ys) :
    Calls Tryd.prog 38 #[v1, v2] w fun e w' => e = .returned (.bool (xs == ys)) ∧ Up w w' := by
  obtain ⟨l1, a1, c1, rfl, hc1⟩ := h1
  obtain ⟨l2, a2, c2, rfl, hc2⟩ := h2
  by_cases hx : xs = []
  · subst hx
    refine (Tryd.slices_Equal_int_empty a1 a2 c1 ys.length c2 w l2).mono ?_
    rintro e w' ⟨rfl, rfl⟩
    refine ⟨?_, Up.refl _⟩
    cases ys <;> simp
  · by_cases hy : ys = []
    · subst hy
      refine (Tryd.slices_Equal_int_lens a1 a2 xs.length c1 0 c2 w (by cases xs; exact absurd rfl hx; simp)).mono ?_
      rintro e w' ⟨rfl, rfl⟩
      refine ⟨?_, Up.refl _⟩
      cases xs with
      | nil => exact absurd rfl hx
      | cons => rfl
    · obtain ⟨b1, o1, rfl, hd1⟩ := hc1 hx
      obtain ⟨b2, o2, rfl, hd2⟩ := hc2 hy
      refine (Tryd.slices_Equal_int b1 o1 xs.length c1 b2 o2 ys.length c2 xs ys w (Nat.le_refl _) (Nat.le_refl _) l1 l2 hd1 hd2).mono ?_
      rintro e w' ⟨rfl, q, rfl⟩
      exact ⟨by simp, (Up.refl w).drewN q⟩

/-- A slice over a block that holds just its elements. -/
theorem ints_blk {w : World} {b cap n : Nat} {xs : List Int} {t : TypeId} {fr : Nat × Nat} (hb : w.heap[b]? = some (.cells (xs.map (Value.int .i64)).toArray t fr)) (hn : n = xs.length) (hl : xs.length ≤ 9223372036854775807) : IntsAt w (.slice (some ⟨b, 0, none⟩) n cap) xs := by
  subst hn
  exact ints_at hl fun i hi => by simp [World.cell?, hb, hi]

theorem awake10 (w : World) (hT : Tab w) : Calls Tryd.prog 18 #[] w fun e w' => e = .returned (.bool true) ∧ Up w w' := by
  have HT := hid hT
  clear hT
  have gp : gpw 23 11 4 3 = 18 := by decide +kernel
  have gi : pw 18 ((11 : Int).toNat - 1) 23 = 9 := by decide +kernel
  go_enter Tryd.func18, Tryd.ntmps18
  go_wp2_with fail
  refine (small10 _).mono ?_
  rintro e w1 ⟨rfl, hU1⟩
  go_wp2_with fail
  refine (Elements_ok 23 11 4 _ (HT.out.up hU1) gv_small (by omega)).mono ?_
  rintro e w2 ⟨v, rfl, hO, hU2⟩
  rw [isort_small] at hO
  have HV := hid hO.ints
  have hU3 := hU1.trans hU2
  clear hO hU1 hU2
  go_wp2_with fail
  refine (small10 _).mono ?_
  rintro e w3 ⟨rfl, hU4⟩
  go_wp2_with fail
  refine (gPower_ok 23 11 4 4 3 _ (by omega) (HT.out.up (hU3.trans hU4)) gv_small (by decide +kernel) (by omega) (by omega)).mono ?_
  rintro e w4 ⟨rfl, hU5⟩
  rw [gp]
  go_wp2_with fail
  refine (small10 _).mono ?_
  rintro e w5 ⟨rfl, hU6⟩
  go_wp2_with fail
  refine (gInverse_ok 23 11 4 18 _ (by omega) (HT.out.up (((hU3.trans hU4).trans hU5).trans hU6)) gv_small (by decide +kernel)).mono ?_
  rintro e w6 ⟨rfl, hU7⟩
  rw [gi]
  have hU8 := (((hU4.trans hU5).trans hU6).trans hU7)
  clear hU4 hU5 hU6 hU7
  go_wp2_with fail
  refine (Make7 _ (HT.out.up (hU3.trans hU8))).mono ?_
  rintro e w7 ⟨rfl, hU9⟩
  go_wp2_with fail
  refine (equal_any _ _ [1, 2, 3, 4, 6, 8, 9, 12, 13, 16, 18] [1, 2, 3, 4, 6, 8, 9, 12, 13, 16, 18] _ (HV.out.up (((hU8.trans hU9).alloc _).alloc _)) (ints_blk (alloc_at _ _ _ (by simp)) rfl (by simp))).mono ?_
  rintro e w8 ⟨rfl, hU10⟩
  obtain ⟨hr1, hf1⟩ := hU10.reads
  rw [show (([1, 2, 3, 4, 6, 8, 9, 12, 13, 16, 18] : List Int) == [1, 2, 3, 4, 6, 8, 9, 12, 13, 16, 18]) = true by decide]
  go_wp2
  go_ret
  exact ⟨rfl, (((((hU3.trans hU8).trans hU9).alloc _).alloc _).trans hU10)⟩
end Go.Proofs.YtldodbffdegmiaaDoor
