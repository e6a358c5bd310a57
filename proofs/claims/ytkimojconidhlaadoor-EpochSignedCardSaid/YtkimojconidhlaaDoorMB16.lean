/- Package encode: the item of a list of integers, as it lies. Package epoch, and its reference: bounds, Issues, Accepts. Package epoch: the numbers of a record. Records: one, and a list of them in memory. slices.IndexFunc, slices.ContainsFunc over records. -/
import Derived.Test.YtkimojconidhlaaDoorMB15
import Derived.Test.YtkimojconidhlaaDoorMB8
import Derived.Test.YtkimojconidhlaaDoorMB1
import Derived.Test.YtkimojconidhlaaDoorMB2
import Derived.Test.YtkimojconidhlaaDoorMB10
import Derived.Test.YtkimojconidhlaaDoorMB3
namespace Go.Proofs.YtkimojconidhlaaDoor
open Go.RowKit Go.Sp
set_option maxHeartbeats 4000000
set_option maxRecDepth 20000

/-- What an item of integers is: a list of its own. -/
def ItemOut (xs : List Int) (w : World) (e : Ending) (w' : World) : Prop :=
  ∃ l, e = .returned (itm 3 0 nilS l) ∧ (∃ base, OwnQ 53 w' base l (xs.map quadI) ∧ w.heap.size ≤ base) ∧ Up w w'
/-- Items that are integers, in memory. -/
def IntItems (w : World) (v : Value) (xs : List Int) : Prop :=
  ∃ a cap, v = .slice a xs.length cap ∧ (xs ≠ [] → ∃ b, a = some ⟨b, 0, none⟩ ∧ ∀ i, i < xs.length → ItmCells w b (i * 4) 1 (xs.getD i 0) nilS nilS)
theorem IntItems.up {w w' : World} {v : Value} {xs : List Int} (h : IntItems w v xs) (hU : Up w w') : IntItems w' v xs := by
  obtain ⟨a, cap, h1, h2⟩ := h
  refine ⟨a, cap, h1, fun hne => ?_⟩
  obtain ⟨b, h3, h4⟩ := h2 hne
  exact ⟨b, h3, fun i hi => (h4 i hi).up hU⟩
theorem OwnQ.ints {e : TypeId} {w : World} {base : Nat} {v : Value} {xs : List Int} (h : OwnQ e w base v (xs.map quadI)) : IntItems w v xs := by
  have hh := h
  rcases h.2 with ⟨hv, hn⟩ | ⟨g, cap, cur, rfl, hb, hg, hn, hm, hs, ht⟩
  · have hx : xs = [] := by cases xs with | nil => rfl | cons x xs => simp at hn
    subst hx
    exact ⟨none, 0, hv, fun h => absurd rfl h⟩
  · refine ⟨_, cap, by rw [List.length_map], fun _ => ⟨g, rfl, fun i hi => ?_⟩⟩
    have hi' : i < (xs.map quadI).length := by rw [List.length_map]; exact hi
    have hc : ∀ j, j < 4 → w.cell? ⟨g, i * 4 + j, none⟩ = ((xs.map quadI)[i].cells)[j]? := fun j hj => by
      rw [← quads_at (xs.map quadI) i j hi' hj]
      exact World.ownsRow.cellAt hh (i * 4 + j) (by omega)
    have hq : (xs.map quadI)[i] = quadI (xs.getD i 0) := by rw [List.getElem_map]; congr 1; simp [hi]
    rw [hq] at hc
    exact ⟨by rw [show i * 4 = i * 4 + 0 from rfl, hc 0 (by omega)]; rfl, by rw [hc 1 (by omega)]; rfl, by rw [hc 2 (by omega)]; rfl, by rw [hc 3 (by omega)]; rfl⟩
theorem ints_items {w w' : World} {a : Option Addr} {n cap : Nat} {xs : List Int} (h : IntItems w (.slice a n cap) xs) (hU : Up w w') {i : Nat} (hi : i < xs.length) : ∃ b, a = some ⟨b, 0, none⟩ ∧ ItmCells w' b (i * 4) 1 (xs.getD i 0) nilS nilS := by
  obtain ⟨a', cap', hv, hc⟩ := h
  injection hv with e1 e2 e3
  subst e1
  obtain ⟨b, rfl, hcell⟩ := hc (by rintro rfl; simp at hi)
  exact ⟨b, rfl, (hcell i hi).up hU⟩
theorem ItemOut.at {xs : List Int} {w' : World} {l : Value} {base : Nat} (h : OwnQ 53 w' base l (xs.map quadI)) (hl : xs.length ≤ 1000) : ItmAt w' 1 3 0 nilS l (encInts xs) :=
  itm_list (h.row (quadI_at _ 0 xs)) (by rw [List.length_map]; exact hl)

theorem encIntsQ_ok (v : Value) (xs : List Int) (w : World) (hv : IntsAt w v xs) (hl : xs.length ≤ 1000) :
    Calls Tryd.prog 25 #[v] w fun e w' => ItemOut xs w e w' := by
  obtain ⟨l1, a1, cp1, rfl, hc1⟩ := hv
  have HC := hid hc1
  obtain ⟨n, hn⟩ : ∃ n, xs.length = n := ⟨_, rfl⟩
  have HN := hid hn
  rw [hn] at l1 hl
  rw [hn]
  clear hc1 hn
  obtain ⟨o, ho⟩ : ∃ o, w.heap.size = o := ⟨_, rfl⟩
  have HO := hid ho
  obtain ⟨o1, ho1⟩ : ∃ o1, o + 1 = o1 := ⟨_, rfl⟩
  have HO1 := hid ho1
  obtain ⟨o2, ho2⟩ : ∃ o2, o1 + 1 = o2 := ⟨_, rfl⟩
  have HO2 := hid ho2
  clear ho ho1 ho2
  go_enter Tryd.func25, Tryd.ntmps25
  go_wp2_with fail
  have HZ0 : Hid (Blk ((w.alloc (.cells #[.int .i64 0, .int .i64 0, nilS, nilS] 53)).alloc (.cells #[.int .i64 3, .int .i64 0, nilS, nilS] 53)) o 53 #[.int .i64 0, .int .i64 0, nilS, nilS]) := hid ((Blk.new HO.out rfl).alloc _)
  have HL0 : Hid (Blk ((w.alloc (.cells #[.int .i64 0, .int .i64 0, nilS, nilS] 53)).alloc (.cells #[.int .i64 3, .int .i64 0, nilS, nilS] 53)) o1 53 #[.int .i64 3, .int .i64 0, nilS, nilS]) := hid (Blk.new (by have := HO.out; have := HO1.out; simp; omega) rfl)
  have HU0 : Hid (Up w ((w.alloc (.cells #[.int .i64 0, .int .i64 0, nilS, nilS] 53)).alloc (.cells #[.int .i64 3, .int .i64 0, nilS, nilS] 53))) := hid (((Up.refl w).alloc _).alloc _)
  rw [HO.out, HO1.out]
  rw [show (w.alloc (.cells #[.int .i64 0, .int .i64 0, .slice none 0 0, .slice none 0 0] 53)).alloc (.cells #[.int .i64 3, .int .i64 0, .slice none 0 0, .slice none 0 0] 53) = (w.alloc (.cells #[.int .i64 0, .int .i64 0, nilS, nilS] 53)).alloc (.cells #[.int .i64 3, .int .i64 0, nilS, nilS] 53) from rfl]
  generalize (w.alloc (.cells #[.int .i64 0, .int .i64 0, nilS, nilS] 53)).alloc (.cells #[.int .i64 3, .int .i64 0, nilS, nilS] 53) = w0 at *
  go_loopw [9] (fun vi wr => ∃ (i : Nat) (ad : Option Addr) (cp : Nat), i ≤ n ∧ vi = .int .i64 i ∧ Hid (Blk wr o1 53 #[.int .i64 3, .int .i64 0, nilS, .slice ad i cp]) ∧ Hid (Blk wr o 53 #[.int .i64 0, .int .i64 0, nilS, nilS]) ∧ Hid (OwnQ 53 wr o2 (.slice ad i cp) ((xs.take i).map quadI)) ∧ Hid (Up w wr)) (fun vi _ => n - (intOf vi).toNat)
  case atStart => exact ⟨0, none, 0, by omega, rfl, HL0, HZ0, hid ownQ_none, HU0⟩
  case round =>
    clear HL0 HZ0 HU0
    obtain ⟨i, ad, cp, hi, rfl, HL, HZ, HQ, HU⟩ := hrel
    have lL : o1 < wr.heap.size := HL.out.lt
    have hlo : o < o1 := by have := HO1.out; omega
    have hlo2 : o1 < o2 := by have := HO2.out; omega
    have hlw : w.heap.size ≤ o := by have := HO.out; omega
    by_cases hlt : i < n
    · have hlx : i < xs.length := by rw [HN.out]; exact hlt
      obtain ⟨b1, f1, rfl, q1⟩ := ints_cell HC.out HU.out hlx
      have HT : Hid (xs.take (i + 1) = xs.take i ++ [xs.getD i 0]) := hid (by rw [List.take_succ_eq_append_getElem hlx]; simp [hlx])
      have HLi : Hid (((xs.take i).map quadI).length = i) := hid (by simp; omega)
      have HLi1 : Hid (((xs.take (i + 1)).map quadI).length = i + 1) := hid (by simp; omega)
      clear hlx
      generalize xs.getD i 0 = x at *
      have HQ7 : Hid ((xs.take i).map quadI ++ [quadI x] = (xs.take (i + 1)).map quadI) := hid (by rw [HT.out, List.map_append]; rfl)
      have q3 := HL.out.val (i := 3) rfl
      go_wp2_with (at_builtin; refine wp_appQ infoItm rfl Tryd.underlying51 (by omega) rfl _ _ rfl o2 rfl (HQ.out.up ((Up.refl wr).alloc _)) wr.heap.size 1 (news := [quadI x]) rfl (fun j hj => by (obtain rfl : j = 0 := (by simp at hj; omega)); exact itm_new rfl) (fun j hj => by (obtain rfl : j = 0 := (by simp at hj; omega)); exact ⟨rfl, rfl⟩) (by have := HLi.out; simp; simp at this; omega) (by have := HO2.out; simp; omega) ?_; intro v5 w5 hO5 hg5; have hB5 : Below o2 wr w5 := below_trans (below_of_up ((Up.refl wr).alloc _) (by have := HO2.out; omega)) ((HQ.out.up ((Up.refl _).alloc _)).below hg5 (by have := HO2.out; simp; omega)); have HL5 := hid (HL.out.below hB5 hlo2); have k3 := HL5.out.val (i := 3) rfl; have y3 := HL5.out.thawed 3; rw [HQ7.out] at hO5; obtain ⟨a5, c5, rfl⟩ := hO5.shape; rw [HLi1.out] at hO5; rw [HLi1.out])
      have HL6 : Hid (Blk (w5.setCell ⟨o1, 3, none⟩ (.slice a5 (i + 1) c5)) o1 53 #[.int .i64 3, .int .i64 0, nilS, .slice a5 (i + 1) c5]) := hid (HL5.out.wrote 3 _)
      have HZ6 := hid ((HZ.out.below hB5 (by omega)).apart (a := ⟨o1, 3, none⟩) (show o ≠ o1 by omega) (.slice a5 (i + 1) c5))
      have HQ6 := hid (hO5.set (a := ⟨o1, 3, none⟩) (show o1 < o2 by omega) (.slice a5 (i + 1) c5))
      have HU6 := hid ((up_below HU.out hB5 (by omega)).setCell (a := ⟨o1, 3, none⟩) (show w.heap.size ≤ o1 by omega) (.slice a5 (i + 1) c5))
      clear hO5 hg5 hB5 HL5 k3 y3 q3 q1
      go_roundw
      case rel => exact ⟨i + 1, a5, c5, by omega, by go_num, HL6, HZ6, HQ6, HU6⟩
      case measure => simp [intOf]; omega
    · obtain rfl : i = n := by omega
      have HQr : Hid (OwnQ 53 wr o2 (.slice ad i cp) (xs.map quadI)) := hid (by
        have := HQ.out
        rw [List.take_of_length_le (by rw [HN.out]; omega)] at this
        exact this)
      have k0 := HL.out.val (i := 0) rfl
      have k1 := HL.out.val (i := 1) rfl
      have k2 := HL.out.val (i := 2) rfl
      have k3 := HL.out.val (i := 3) rfl
      have z0 := HZ.out.val (i := 0) rfl
      have z1 := HZ.out.val (i := 1) rfl
      have z2 := HZ.out.val (i := 2) rfl
      have z3 := HZ.out.val (i := 3) rfl
      have y0 := HZ.out.thawed 0
      have y1 := HZ.out.thawed 1
      have y2 := HZ.out.thawed 2
      have y3 := HZ.out.thawed 3
      clear HQ
      go_wp2
      refine bodyPost_ret (v := itm 3 0 nilS (.slice ad i cp)) (results_cell_row rfl _ _ o 53 _ (0, 0) _ (by rfl) (blk_four HZ.out _ _ _ _) Tryd.underlying53 rfl (by kernel_rfl)) rfl ⟨.slice ad i cp, rfl, ⟨o2, ?_, by have := HO.out; have := HO1.out; have := HO2.out; omega⟩, (((HU.out.setCell hlw _).setCell hlw _).setCell hlw _).setCell hlw _⟩
      exact (((HQr.out.set (a := ⟨o, 0, none⟩) (show o < o2 by omega) _).set (a := ⟨o, 1, none⟩) (show o < o2 by omega) _).set (a := ⟨o, 2, none⟩) (show o < o2 by omega) _).set (a := ⟨o, 3, none⟩) (show o < o2 by omega) _

end Go.Proofs.YtkimojconidhlaaDoor
namespace Go.Proofs.YtkimojconidhlaaDoor
open Go.RowKit Go.Sp
set_option maxHeartbeats 4000000
set_option maxRecDepth 20000

/-- The cells of a record. -/
def epoA (kd nr co iv ni ka kb kc st un ac : Int) : Array Value := #[.int .i64 kd, .int .i64 nr, .int .i64 co, .int .i64 iv, .int .i64 ni, .int .i64 ka, .int .i64 kb, .int .i64 kc, .int .i64 st, .int .i64 un, .int .i64 ac]
/-- A record as a value. -/
def epo (kd nr co iv ni ka kb kc st un ac : Int) : Value := .agg (epoA kd nr co iv ni ka kb kc st un ac)

theorem eWithin_any (x lo hi : Int) (w : World) : Calls Tryd.prog 27 #[.int .i64 x, .int .i64 lo, .int .i64 hi] w fun e w' => e = .returned (.bool (decide (x ≥ lo) && decide (x ≤ hi))) ∧ Up w w' := by
  by_cases h1 : x ≥ lo
  case neg =>
    have d1 : decide (x ≥ lo) = false := by simpa using h1
    have hX : (decide (x ≥ lo) && decide (x ≤ hi)) = false := by rw [d1]; rfl
    rw [hX]
    clear h1 hX
    go_enter Tryd.func27, Tryd.ntmps27
    go_wp2
    go_ret
    exact ⟨rfl, Up.refl w⟩
  have d1 : decide (x ≥ lo) = true := by simpa using h1
  have HX : Hid ((decide (x ≥ lo) && decide (x ≤ hi)) = decide (x ≤ hi)) := hid (by rw [d1]; rfl)
  rw [HX.out]
  clear h1
  go_enter Tryd.func27, Tryd.ntmps27
  go_wp2
  go_ret
  exact ⟨rfl, Up.refl w⟩

theorem eIssues_any (kd nr co iv ni ka kb kc st un ac t : Int) (w : World) : Calls Tryd.prog 14 #[epo kd nr co iv ni ka kb kc st un ac, .int .i64 t] w fun e w' => e = .returned (.bool (decide (st ≤ t) && decide (t < un))) ∧ Up w w' := by
  by_cases h1 : st ≤ t
  case neg =>
    have d1 : decide (st ≤ t) = false := by simpa using h1
    have hX : (decide (st ≤ t) && decide (t < un)) = false := by rw [d1]; rfl
    rw [hX]
    clear h1 hX
    unfold epo epoA
    go_enter Tryd.func14, Tryd.ntmps14
    go_wp2
    go_ret
    exact ⟨rfl, (Up.refl w).alloc _⟩
  have d1 : decide (st ≤ t) = true := by simpa using h1
  have HX : Hid ((decide (st ≤ t) && decide (t < un)) = decide (t < un)) := hid (by rw [d1]; rfl)
  rw [HX.out]
  clear h1
  unfold epo epoA
  go_enter Tryd.func14, Tryd.ntmps14
  go_wp2
  go_ret
  exact ⟨rfl, (Up.refl w).alloc _⟩

theorem eAccepts_any (kd nr co iv ni ka kb kc st un ac t : Int) (w : World) : Calls Tryd.prog 15 #[epo kd nr co iv ni ka kb kc st un ac, .int .i64 t] w fun e w' => e = .returned (.bool (decide (st ≤ t) && decide (t < ac))) ∧ Up w w' := by
  by_cases h1 : st ≤ t
  case neg =>
    have d1 : decide (st ≤ t) = false := by simpa using h1
    have hX : (decide (st ≤ t) && decide (t < ac)) = false := by rw [d1]; rfl
    rw [hX]
    clear h1 hX
    unfold epo epoA
    go_enter Tryd.func15, Tryd.ntmps15
    go_wp2
    go_ret
    exact ⟨rfl, (Up.refl w).alloc _⟩
  have d1 : decide (st ≤ t) = true := by simpa using h1
  have HX : Hid ((decide (st ≤ t) && decide (t < ac)) = decide (t < ac)) := hid (by rw [d1]; rfl)
  rw [HX.out]
  clear h1
  unfold epo epoA
  go_enter Tryd.func15, Tryd.ntmps15
  go_wp2
  go_ret
  exact ⟨rfl, (Up.refl w).alloc _⟩

end Go.Proofs.YtkimojconidhlaaDoor
namespace Go.Proofs.YtkimojconidhlaaDoor
open Go.RowKit Go.Sp
set_option maxHeartbeats 4000000
set_option maxRecDepth 20000

def enB (kd nr st un ac : Int) : Bool := (decide (kd ≥ 0) && decide (kd ≤ 7)) && ((decide (nr ≥ 0) && decide (nr ≤ 1000000)) && (decide (st ≥ 0) && (decide (st < un) && (decide (un ≤ ac) && decide (ac ≤ 1099511627776)))))
theorem eNumbers_any (kd nr st un ac : Int) (w : World) : Calls Tryd.prog 26 #[.int .i64 kd, .int .i64 nr, .int .i64 st, .int .i64 un, .int .i64 ac] w fun e w' => e = .returned (.bool (enB kd nr st un ac)) ∧ Up w w' := by
  have M1 := hid (fun w' => eWithin_any kd 0 7 w')
  have M2 := hid (fun w' => eWithin_any nr 0 1000000 w')
  obtain ⟨B, hB⟩ : ∃ B, enB kd nr st un ac = B := ⟨_, rfl⟩
  have HB := hid hB
  rw [hB]
  clear hB
  unfold enB at HB
  generalize (decide (kd ≥ 0) && decide (kd ≤ 7)) = b1 at *
  generalize (decide (nr ≥ 0) && decide (nr ≤ 1000000)) = b2 at *
  go_enter Tryd.func26, Tryd.ntmps26
  go_wp2_with fail
  refine (M1.out _).mono ?_
  rintro e w1 ⟨rfl, hU1⟩
  have HU1 := hid hU1
  clear hU1
  cases b1
  case false =>
    obtain rfl : B = false := HB.out.symm
    go_wp2
    go_ret
    exact ⟨rfl, HU1.out⟩
  go_wp2_with fail
  refine (M2.out _).mono ?_
  rintro e w2 ⟨rfl, hU2⟩
  have HU2 := hid (HU1.out.trans hU2)
  clear hU2
  cases b2
  case false =>
    obtain rfl : B = false := HB.out.symm
    go_wp2
    go_ret
    exact ⟨rfl, HU2.out⟩
  by_cases h1 : st ≥ 0
  case neg =>
    have d1 : decide (st ≥ 0) = false := by simpa using h1
    obtain rfl : B = false := by rw [← HB.out]; simp [d1]
    clear h1
    go_wp2
    go_ret
    exact ⟨rfl, HU2.out⟩
  have d1 : decide (st ≥ 0) = true := by simpa using h1
  by_cases h2 : st < un
  case neg =>
    have d2 : decide (st < un) = false := by simpa using h2
    obtain rfl : B = false := by rw [← HB.out]; simp [d1, d2]
    clear h2
    go_wp2
    go_ret
    exact ⟨rfl, HU2.out⟩
  have d2 : decide (st < un) = true := by simpa using h2
  by_cases h3 : un ≤ ac
  case neg =>
    have d3 : decide (un ≤ ac) = false := by simpa using h3
    obtain rfl : B = false := by rw [← HB.out]; simp [d1, d2, d3]
    clear h3
    go_wp2
    go_ret
    exact ⟨rfl, HU2.out⟩
  have d3 : decide (un ≤ ac) = true := by simpa using h3
  by_cases h4 : ac ≤ 1099511627776
  case neg =>
    have d4 : decide (ac ≤ 1099511627776) = false := by simpa using h4
    obtain rfl : B = false := by rw [← HB.out]; simp [d1, d2, d3, d4]
    clear h4
    go_wp2
    go_ret
    exact ⟨rfl, HU2.out⟩
  have d4 : decide (ac ≤ 1099511627776) = true := by simpa using h4
  obtain rfl : B = true := by rw [← HB.out]; simp [d1, d2, d3, d4]
  clear h1 h2 h3 h4
  go_wp2
  go_ret
  exact ⟨rfl, HU2.out⟩
end Go.Proofs.YtkimojconidhlaaDoor
namespace Go.Proofs.YtkimojconidhlaaDoor
open Go.RowKit Go.Sp
set_option maxHeartbeats 1000000
set_option maxRecDepth 20000

/-- A record: bank, epoch, denomination, value, depth, key, times. -/
structure Rec where
  (kd nr co iv ni ka kb kc st un ac : Int)
def Rec.cells (r : Rec) : List Value := [.int .i64 r.kd, .int .i64 r.nr, .int .i64 r.co, .int .i64 r.iv, .int .i64 r.ni, .int .i64 r.ka, .int .i64 r.kb, .int .i64 r.kc, .int .i64 r.st, .int .i64 r.un, .int .i64 r.ac]
def Rec.nums (r : Rec) : List Int := [r.kd, r.nr, r.co, r.iv, r.ni, r.ka, r.kb, r.kc, r.st, r.un, r.ac]
abbrev Rec.val (r : Rec) : Value := epo r.kd r.nr r.co r.iv r.ni r.ka r.kb r.kc r.st r.un r.ac
def rec0 : Rec := ⟨0, 0, 0, 0, 0, 0, 0, 0, 0, 0, 0⟩

/-- The cells of a record at an offset of a block. -/
def RecAt (w : World) (b o : Nat) (r : Rec) : Prop :=
  w.cell? ⟨b, o, none⟩ = some (.int .i64 r.kd) ∧ w.cell? ⟨b, o + 1, none⟩ = some (.int .i64 r.nr) ∧ w.cell? ⟨b, o + 2, none⟩ = some (.int .i64 r.co) ∧ w.cell? ⟨b, o + 3, none⟩ = some (.int .i64 r.iv) ∧
  w.cell? ⟨b, o + 4, none⟩ = some (.int .i64 r.ni) ∧ w.cell? ⟨b, o + 5, none⟩ = some (.int .i64 r.ka) ∧ w.cell? ⟨b, o + 6, none⟩ = some (.int .i64 r.kb) ∧ w.cell? ⟨b, o + 7, none⟩ = some (.int .i64 r.kc) ∧
  w.cell? ⟨b, o + 8, none⟩ = some (.int .i64 r.st) ∧ w.cell? ⟨b, o + 9, none⟩ = some (.int .i64 r.un) ∧ w.cell? ⟨b, o + 10, none⟩ = some (.int .i64 r.ac)
theorem RecAt.up {w w' : World} {b o : Nat} {r : Rec} (h : RecAt w b o r) (hU : Up w w') : RecAt w' b o r := by
  obtain ⟨h0, h1, h2, h3, h4, h5, h6, h7, h8, h9, h10⟩ := h
  have hb := cell_in h0
  have e : ∀ i, w'.cell? ⟨b, i, none⟩ = w.cell? ⟨b, i, none⟩ := fun i => hU.cell hb
  unfold RecAt
  simp only [e]
  exact ⟨h0, h1, h2, h3, h4, h5, h6, h7, h8, h9, h10⟩
theorem RecAt.lt {w : World} {b o : Nat} {r : Rec} (h : RecAt w b o r) : b < w.heap.size := cell_in h.1
theorem Blk.recAt {w : World} {b : Nat} {t : TypeId} {r : Rec} (h : Blk w b t (epoA r.kd r.nr r.co r.iv r.ni r.ka r.kb r.kc r.st r.un r.ac)) : RecAt w b 0 r :=
  ⟨h.val (i := 0) rfl, h.val (i := 1) rfl, h.val (i := 2) rfl, h.val (i := 3) rfl, h.val (i := 4) rfl, h.val (i := 5) rfl, h.val (i := 6) rfl, h.val (i := 7) rfl, h.val (i := 8) rfl, h.val (i := 9) rfl, h.val (i := 10) rfl⟩

/-- A list of records in memory. -/
def RecsAt (w : World) (v : Value) (l : List Rec) : Prop :=
  l.length ≤ 9223372036854775807 ∧ ∃ a cap, v = .slice a l.length cap ∧ (l ≠ [] → ∃ b off, a = some ⟨b, off, none⟩ ∧ ∀ i, i < l.length → RecAt w b (off + i * 11) (l.getD i rec0))
theorem RecsAt.up {w w' : World} {v : Value} {l : List Rec} (h : RecsAt w v l) (hU : Up w w') : RecsAt w' v l := by
  obtain ⟨hl, a, cap, hv, hc⟩ := h
  refine ⟨hl, a, cap, hv, fun hne => ?_⟩
  obtain ⟨b, off, ha, hcell⟩ := hc hne
  exact ⟨b, off, ha, fun i hi => (hcell i hi).up hU⟩
theorem recs_cell {w w' : World} {a : Option Addr} {n cap : Nat} {l : List Rec} (h : RecsAt w (.slice a n cap) l) (hU : Up w w') {i : Nat} (hi : i < l.length) :
    ∃ b off, a = some ⟨b, off, none⟩ ∧ RecAt w' b (off + i * 11) (l.getD i rec0) := by
  obtain ⟨_, a', cap', hv, hc⟩ := h
  injection hv with e1 e2 e3
  subst e1
  obtain ⟨b, off, rfl, hcell⟩ := hc (by rintro rfl; simp at hi)
  exact ⟨b, off, rfl, (hcell i hi).up hU⟩

/-- Are value and depth those of a denomination? -/
def oneB (v d : Int) : Bool := if v = 0 then d == 0 else decide (v ≥ 1) && (decide (v ≤ 1099511627776) && (decide (d ≥ 0) && (decide (d ≤ 5) && v % 2 ^ d.toNat == 0)))
end Go.Proofs.YtkimojconidhlaaDoor
namespace Go.Proofs.YtkimojconidhlaaDoor
open Go.RowKit Go.Sp
set_option maxHeartbeats 4000000
set_option maxRecDepth 20000

/-- The place of the first record that p says yes to; -1 if there is none. -/
def idxK (p : Rec → Bool) : List Rec → Nat → Int
  | [], _ => -1
  | x :: l, k => if p x = true then (k : Int) else idxK p l (k + 1)
theorem idxK_nonneg (p : Rec → Bool) : ∀ (rs : List Rec) (k : Nat), decide (0 ≤ idxK p rs k) = rs.any p
  | [], _ => rfl
  | x :: l, k => by
    rw [idxK, List.any_cons]
    by_cases h : p x = true
    · rw [if_pos h, h]; simp
    · rw [if_neg h, idxK_nonneg p l (k + 1)]; simp [h]
theorem recs_drop {rs : List Rec} {i : Nat} (h : i < rs.length) : rs.drop i = rs.getD i rec0 :: rs.drop (i + 1) := by
  rw [List.drop_eq_getElem_cons h]; simp [h]
theorem recs_mem {rs : List Rec} {i : Nat} (h : i < rs.length) : rs.getD i rec0 ∈ rs := by
  have : rs.getD i rec0 = rs[i] := by simp [h]
  rw [this]; exact List.getElem_mem h

theorem IndexFuncK (f : FuncId) (cs : Array Value) (p : Rec → Bool) (v : Value) (rs : List Rec) (w : World) (hv : RecsAt w v rs)
    (hcf : ∀ args w, (callFunc f args).run Tryd.prog w = .ok (.enter f args) w)
    (hf : ∀ x, x ∈ rs → ∀ w', Up w w' → Calls Tryd.prog f (#[x.val] ++ cs) w' fun e w'' => e = .returned (.bool (p x)) ∧ Up w' w'') :
    Calls Tryd.prog 64 #[v, .func (.func f) #[] cs] w fun e w' => e = .returned (.int .i64 (idxK p rs 0)) ∧ Up w w' := by
  have HF := hid hf
  clear hf
  have HV := hid hv
  obtain ⟨hlen, a, cap, rfl, hc⟩ := hv
  clear hc
  obtain ⟨R, hR⟩ : ∃ R, idxK p rs 0 = R := ⟨_, rfl⟩
  rw [hR]
  have HR := hid hR
  clear hR
  obtain ⟨n, hn⟩ : ∃ n, rs.length = n := ⟨_, rfl⟩
  have HN := hid hn
  rw [hn] at HV hlen ⊢
  clear hn
  go_enter Tryd.func64, Tryd.ntmps64
  go_wp2_with fail
  go_loopw [8] (fun vi wr => ∃ i : Nat, i ≤ n ∧ vi = .int .i64 i ∧ Hid (idxK p rs 0 = idxK p (rs.drop i) i) ∧ Hid (Up w wr)) (fun vi _ => n - (intOf vi).toNat)
  case atStart => exact ⟨0, by omega, rfl, hid rfl, hid (Up.refl _)⟩
  case round =>
    obtain ⟨i, hi, rfl, HI, HU⟩ := hrel
    by_cases hl : i < n
    · have hlx : i < rs.length := by rw [HN.out]; exact hl
      obtain ⟨b, off, rfl, hx2⟩ := recs_cell HV.out HU.out hlx
      have HI2 : Hid (idxK p rs 0 = if p (rs.getD i rec0) = true then (i : Int) else idxK p (rs.drop (i + 1)) (i + 1)) := hid (by rw [HI.out, recs_drop hlx]; rfl)
      have HE := hid (fun w' (h1 : Up w w') => HF.out (rs.getD i rec0) (recs_mem hlx) w' h1)
      clear HI hlx
      generalize rs.getD i rec0 = x at *
      obtain ⟨q0, q1, q2, q3, q4, q5, q6, q7, q8, q9, q10⟩ := hx2
      obtain ⟨C, hC⟩ : ∃ C, p x = C := ⟨_, rfl⟩
      rw [hC] at HI2 HE
      obtain ⟨x0, x1, x2, x3, x4, x5, x6, x7, x8, x9, x10⟩ := x
      dsimp only at q0 q1 q2 q3 q4 q5 q6 q7 q8 q9 q10
      unfold Rec.val epo epoA at HE
      dsimp only at HE
      clear hC
      go_wp2_with fail
      refine (HE.out _ HU.out).mono ?_
      rintro e w2 ⟨rfl, hU2⟩
      have HU2 := hid (HU.out.trans hU2)
      clear hU2 q0 q1 q2 q3 q4 q5 q6 q7 q8 q9 q10
      cases C
      · have HI3 : Hid (idxK p rs 0 = idxK p (rs.drop (i + 1)) (i + 1)) := hid (by rw [HI2.out]; rfl)
        clear HI2
        go_wp2
        go_roundw
        case rel => exact ⟨i + 1, by omega, by go_num, HI3, HU2⟩
        case measure => simp [intOf]; omega
      · have HB2 : Hid (R = (i : Int)) := hid (by rw [← HR.out, HI2.out]; rfl)
        clear HI2
        go_wp2
        go_ret
        exact ⟨by rw [HB2.out]; rfl, HU2.out⟩
    · obtain rfl : i = n := by omega
      have hB2 : R = -1 := by rw [← HR.out, HI.out, List.drop_eq_nil_of_le (by rw [HN.out]; omega)]; rfl
      subst hB2
      go_wp2
      go_ret
      exact ⟨rfl, HU.out⟩

theorem ContainsFuncK (f : FuncId) (cs : Array Value) (p : Rec → Bool) (v : Value) (rs : List Rec) (w : World) (hv : RecsAt w v rs)
    (hcf : ∀ args w, (callFunc f args).run Tryd.prog w = .ok (.enter f args) w)
    (hf : ∀ x, x ∈ rs → ∀ w', Up w w' → Calls Tryd.prog f (#[x.val] ++ cs) w' fun e w'' => e = .returned (.bool (p x)) ∧ Up w' w'') :
    Calls Tryd.prog 39 #[v, .func (.func f) #[] cs] w fun e w' => e = .returned (.bool (rs.any p)) ∧ Up w w' := by
  have HI := hid (IndexFuncK f cs p v rs w hv hcf hf)
  have HN := hid (idxK_nonneg p rs 0)
  clear hf hv hcf
  generalize idxK p rs 0 = k at *
  go_enter Tryd.func39, Tryd.ntmps39
  go_wp2_with fail
  refine HI.out.mono ?_
  rintro e w2 ⟨rfl, hU2⟩
  go_wp2
  go_ret
  exact ⟨by rw [← HN.out]; rfl, hU2⟩
end Go.Proofs.YtkimojconidhlaaDoor
