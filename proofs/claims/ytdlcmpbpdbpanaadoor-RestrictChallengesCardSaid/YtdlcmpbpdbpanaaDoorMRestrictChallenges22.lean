/- Package digest: the number of a digest. A region that draws its order and ends in a store: what the loads read is kept as far as the last operation, which waits for all others. Over any program. -/
import Derived.Test.YtdlcmpbpdbpanaaDoorMRestrictChallenges18
import Derived.Test.YtdlcmpbpdbpanaaDoorMRestrictChallenges3
import Derived.Test.YtdlcmpbpdbpanaaDoorMRestrictChallenges21
import Derived.Test.YtdlcmpbpdbpanaaDoorMRestrictChallenges17
import Derived.Deep.RegionHeld3
namespace Go.Proofs.YtdlcmpbpdbpanaaDoor
open Go.RowKit Go.Sp
set_option maxHeartbeats 2000000
set_option maxRecDepth 20000

theorem Number_ok (h : Nat → Int) (m : Int) (w : World) (hB : Byt h) (m0 : 1 ≤ m) (m1 : m < 2305843009213693952) :
    Calls Tryd.prog 80 #[hashV h, .int .i64 m] w fun e w' => e = .returned (.tuple #[.int .i64 (numH h m), .int .i64 0]) ∧ Up w w' := by
  have hget := fun i (hi : i < 32) => arrK_get (k := .u8) (f := h) hi
  unfold hashV
  generalize arrK .u8 h 32 = cs at *
  have HG := hid hget
  have HB := hid hB
  have HN : Hid (numH h m = numB h m 16) := hid rfl
  clear hget hB
  have d0 : decide (m < 1) = false := by simp; omega
  have d1 : decide (m ≥ 2305843009213693952) = false := by simp; omega
  have dm : (m == 0) = false := by simp; omega
  go_enter Tryd.func80, Tryd.ntmps80
  go_wp2_with fail
  have HB0 := hid (Blk.new (w := w) (t := 23) (cs := cs) rfl rfl)
  have HU0 := hid ((Up.refl w).alloc (.cells cs 23))
  obtain ⟨o, ho⟩ : ∃ o, w.heap.size = o := ⟨_, rfl⟩
  rw [ho] at HB0
  rw [ho]
  clear ho
  go_loopw [6, 17] (fun vx vi wr => ∃ i : Nat, i ≤ 16 ∧ vi = .int .i64 i ∧ vx = .int .i64 (numB h m i) ∧ Hid (Blk wr o 23 cs) ∧ Hid (Up w wr)) (fun _ vi _ => 16 - (intOf vi).toNat)
  case atStart => exact ⟨0, by omega, rfl, rfl, HB0, HU0⟩
  case round =>
    clear HB0 HU0
    obtain ⟨i, hi, rfl, rfl, HBk, HU⟩ := hrel
    by_cases hlt : i < 16
    · have q1 := HBk.out.val (HG.out i (by omega))
      have r3 := HB.out i
      obtain ⟨x0, x1⟩ := numB_range (h := h) (m := m) (by omega) i
      have HS : Hid (numB h m (i + 1) = (numB h m i * 256 + h i) % m) := hid rfl
      generalize numB h m i = x at *
      generalize h i = c at *
      have hc0 := r3.1
      have hc1 := r3.2
      have HX : Hid (0 ≤ x ∧ x < m) := hid ⟨x0, x1⟩
      have di : decide ((i : Int) < 16) = true := by simp; omega
      clear r3
      go_wp2_with fail
      have HX0 : Hid (x = x * 2 ^ 0 % m) := hid (dbl_zero x0 x1).symm
      obtain ⟨wo, rfl⟩ : ∃ wo : World, wo = wr := ⟨_, rfl⟩
      clear x0 x1 q1
      go_loopw [6, 21] (fun vx vj wr => ∃ (j : Nat) (y : Int), j ≤ 8 ∧ vj = .int .i64 j ∧ vx = .int .i64 y ∧ Hid (y = x * 2 ^ j % m) ∧ 0 ≤ y ∧ y < m ∧ Hid (Up wo wr)) (fun _ vj _ => 8 - (intOf vj).toNat)
      case atStart => exact ⟨0, x, by omega, rfl, rfl, HX0, HX.out.1, HX.out.2, hid (Up.refl _)⟩
      case round =>
        obtain ⟨j, y, hj, rfl, rfl, HY, y0, y1, HU2⟩ := hrel
        by_cases hlt2 : j < 8
        · have HA := hid (fun w' => Add_ok y y m w' y0 y1 y0 y1 m1)
          have HY2 : Hid ((y + y) % m = x * 2 ^ (j + 1) % m) := hid (by rw [HY.out]; exact dbl_step x m j)
          have e0 := Int.emod_nonneg (y + y) (show m ≠ 0 by omega)
          have e1 := Int.emod_lt_of_pos (y + y) (show 0 < m by omega)
          go_wp2_with fail
          refine (HA.out _).mono ?_
          rintro e w2 ⟨rfl, hU3⟩
          have HU3 := hid (HU2.out.trans hU3)
          clear hU3 HY HU2 HA
          generalize (y + y) % m = z at *
          go_wp2_with fail
          go_roundw
          case rel => exact ⟨j + 1, z, by omega, by go_num, rfl, HY2, e0, e1, HU3⟩
          case measure => simp [intOf]; omega
        · obtain rfl : j = 8 := by omega
          have e0 := Int.emod_nonneg c (show m ≠ 0 by omega)
          have e1 := Int.emod_lt_of_pos c (show 0 < m by omega)
          have htm : c.tmod m = c % m := Int.tmod_eq_emod_of_nonneg hc0
          have HA := hid (fun w' => Add_ok y (c % m) m w' y0 y1 e0 e1 m1)
          have HZ : Hid ((y + c % m) % m = (x * 256 + c) % m) := hid (by rw [HY.out]; exact num_step x c m)
          go_wp2_with fail
          refine (HA.out _).mono ?_
          rintro e w2 ⟨rfl, hU3⟩
          have HU3 := hid (HU.out.trans (HU2.out.trans hU3))
          have HB3 := hid ((HBk.out.up HU2.out).up hU3)
          clear hU3 HY HU2 HA htm e0 e1
          generalize (y + c % m) % m = z at *
          go_wp2_with fail
          go_roundw
          case rel => exact ⟨i + 1, by omega, by go_num, by rw [HS.out, HZ.out], HB3, HU3⟩
          case measure => simp [intOf]; omega
    · obtain rfl : i = 16 := by omega
      go_wp2
      go_ret2
      exact ⟨by rw [HN.out]; rfl, HU.out⟩
end Go.Proofs.YtdlcmpbpdbpanaaDoor
namespace Go.Sp
open Go.RowKit

section
variable {P : Program} {ops : Array Oper} {Q : Exit → Act → World → Prop} {S : World → Prop} {last : Nat}

/-- Whatever comes up next, S holds behind it, but behind the last operation. -/
def anyE (P : Program) (ops : Array Oper) (Q : Exit → Act → World → Prop) (S : World → Prop) (last : Nat) : Nat → Array Bool → Act → World → Prop
  | 0, listed, a, w => Region.ready .any ops listed = [] ∧ Q .normal a w
  | n + 1, listed, a, w => (Region.ready .any ops listed = [] → Q .normal a w) ∧ ∀ j ∈ Region.ready .any ops listed, wpOp P ops Q j (fun b u => (j = last ∨ S u) ∧ anyE P ops Q S last n (listed.setIfInBounds j true) b u) a w

theorem any_of_E : ∀ (n : Nat) (listed : Array Bool) (a : Act) (w : World), anyE P ops Q S last n listed a w → wpAny P .any ops Q n listed a w
  | 0, _, _, _, h => h
  | n + 1, _, _, _, h => ⟨h.1, fun j hj => wpOp_mono (fun b u k => any_of_E n _ b u k.2) (h.2 j hj)⟩

/-- The last operation waits for all others. -/
def endB (ops : Array Oper) (last : Nat) : Bool := (List.range ops.size).all fun i => i == last || (match ops[last]? with | some o => o.after.any fun e => Region.binds .any e && e.on == i | none => false)

theorem end_spec (h : endB ops last = true) {listed : Array Bool} (hr : last ∈ Region.ready .any ops listed) {i : Nat} (hi : i < ops.size) (hne : i ≠ last) : listed.getD i false = true := by
  have h1 := List.all_eq_true.1 h i (List.mem_range.2 hi)
  obtain ⟨_, o, ho, hall⟩ := mem_ready.1 hr
  simp only [ho, Bool.or_eq_true, beq_iff_eq] at h1
  rcases h1 with h1 | h1
  · exact absurd h1 hne
  · obtain ⟨e, he, hb⟩ := Array.any_eq_true'.1 h1
    simp only [Bool.and_eq_true, beq_iff_eq] at hb
    rw [← hb.2]
    exact hall e he hb.1

theorem unlisted {listed : Array Bool} {i : Nat} (h : listed.getD i true = false) : listed.getD i false = false := by
  by_cases hi : i < listed.size
  · simp [hi] at h ⊢; exact h
  · simp [hi] at h

/-- What yields under S may be taken first. -/
theorem anyE_take {i : Nat} {o : Oper} {v : Value} (d : Tmp) (ho : ops[i]? = some o) (hd : o.dst = some d) (hs : Region.noSelect ops = true) (he : endB ops last = true) (hil : i ≠ last) (hQ : ∀ c a w, Q (.panic c) (a.put (some d) v) w → Q (.panic c) a w) :
    ∀ {n : Nat} {listed : Array Bool} {a : Act} {w : World}, Region.free .any ops listed i = true → (Region.ready .any ops listed).contains i = true → YieldsIf P ops S o v a → S w →
      anyE P ops Q S last n (listed.setIfInBounds i true) (a.put (some d) v) w → anyE P ops Q S last (n + 1) listed a w := by
  rw [← hd] at hQ ⊢
  have hsz : i < ops.size := (Array.getElem?_eq_some_iff.1 ho).1
  intro n
  have key : ∀ (n : Nat) (listed : Array Bool) (a : Act) (w : World), (∀ j oj, ops[j]? = some oj → j ≠ i → listed.getD j true = false → (∀ e ∈ oj.after, Region.binds .any e = true → e.on ≠ i) → o.apart ops oj = true) → i ∈ Region.ready .any ops listed → YieldsIf P ops S o v a → S w →
      anyE P ops Q S last n (listed.setIfInBounds i true) (a.put o.dst v) w → anyE P ops Q S last (n + 1) listed a w := by
    intro n
    induction n with
    | zero =>
      intro listed a w _ hr hy hS h
      refine ⟨fun h0 => absurd hr (by rw [h0]; simp), fun j hj => ?_⟩
      by_cases hji : j = i
      · subst hji
        exact hy.wpOp ho hS ⟨.inr hS, h⟩
      · exact absurd (ready_mono hj hji) (by rw [h.1]; simp)
    | succ n ih =>
      intro listed a w hf hr hy hS h
      refine ⟨fun h0 => absurd hr (by rw [h0]; simp), fun j hj => ?_⟩
      by_cases hji : j = i
      · subst hji
        exact hy.wpOp ho hS ⟨.inr hS, h⟩
      have hun := (mem_ready.1 hr).1
      have hjl : j ≠ last := fun hl => by
        subst hl
        have := end_spec he hj hsz (fun h => hil h)
        rw [unlisted hun] at this
        cases this
      obtain ⟨hju, oj, hoj, hall⟩ := mem_ready.1 hj
      have hno : ∀ e ∈ oj.after, Region.binds .any e = true → e.on ≠ i := fun e hm hb hx => by
        have := hall e hm hb
        rw [hx, unlisted hun] at this
        cases this
      have hstep := wpOp_putIf hoj (hf j oj hoj hji hju hno) (fun cs b => Region.noSelect_spec hs i o cs b ho) (fun cs b => Region.noSelect_spec hs j oj cs b hoj) hQ hy (h.2 j (ready_mono hj hji))
      refine wpOp_mono (fun b u k => ?_) hstep
      obtain ⟨hy2, hSu, hrest⟩ := k
      have hSu' : S u := by
        rcases hSu with hSu | hSu
        · exact absurd hSu hjl
        · exact hSu
      refine ⟨.inr hSu', ih _ b u (fun k ok hk hki hku hkn => hf k ok hk hki ?_ hkn) (ready_mono hr (Ne.symm hji)) hy2 hSu' ?_⟩
      · by_cases hjk : j = k
        · subst hjk; exact hju
        · rw [getD_set_ne true hjk] at hku; exact hku
      · rw [Array.setIfInBounds_comm _ _ hji]
        exact hrest
  intro listed a w hf hr hy hS h
  exact key n listed a w (fun j oj h1 h2 h3 h4 => Region.free_spec ho hf j oj h1 h2 h3 h4) (by simpa using hr) hy hS h

/-- One alone may come up. -/
theorem anyE_one {i : Nat} {o : Oper} {n : Nat} {listed : Array Bool} {a : Act} {w : World} (ho : ops[i]? = some o) (hr : Region.ready .any ops listed = [i]) (hg : o.guard = none)
    (h : ∀ K : Act → World → Prop, Hid (∀ b u, (i = last ∨ S u) → anyE P ops Q S last n (listed.setIfInBounds i true) b u → K b u) → o.wp P a w K Q) : anyE P ops Q S last (n + 1) listed a w := by
  refine ⟨fun h0 => (by rw [hr] at h0; cases h0), fun j hj => ?_⟩
  rw [hr] at hj
  obtain rfl : j = i := by simpa using hj
  unfold wpOp
  simp only [ho]
  rw [if_pos (by simp [Region.wanted, hg])]
  exact .inl (h _ (hid fun b u hS k => ⟨hS, k⟩))

theorem anyE_done {listed : Array Bool} {a : Act} {w : World} (hr : Region.ready .any ops listed = []) (h : Q .normal a w) : ∀ n, anyE P ops Q S last n listed a w
  | 0 => ⟨hr, h⟩
  | _ + 1 => ⟨fun _ => h, by rw [hr]; simp⟩

theorem region_E {id : Nat} {a : Act} {w : World} (S : World → Prop) (last : Nat) (hm : P.follows .mixedOrders = true) (hS : S w.drew) (h : S w.drew → anyE P ops Q S last ops.size (Array.replicate ops.size false) a w.drew) : (Code.region id ops true).wp P Q a w :=
  wp_region_any hm (any_of_E _ _ _ _ (h hS))
end
end Go.Sp
