/- The reference's encoding: a number in bytes. Package encode: valid items; numbers. -/
import Derived.Test.YtdlcmpbpdbpanaaDoorMRestrictChallenges27
import Derived.Test.YtdlcmpbpdbpanaaDoorMRestrictChallenges17
namespace Go.Proofs.YtdlcmpbpdbpanaaDoor
open Go.RowKit Go.Sp
set_option maxHeartbeats 4000000
set_option maxRecDepth 20000

/-- The last so many are filled. -/
def bfill (f : Nat → Int) (n s : Nat) : Nat → Int := fun j => if n ≤ j + s then f j else 0
theorem bfill_zero (k : IntKind) (f : Nat → Int) (n : Nat) : arrK k (fun _ => 0) n = arrK k (bfill f n 0) n := arrK_congr fun j hj => by
  rw [bfill, if_neg (by omega)]
theorem bfill_all (k : IntKind) (f : Nat → Int) (n : Nat) : arrK k (bfill f n n) n = arrK k f n := arrK_congr fun j _ => by
  rw [bfill, if_pos (by omega)]
theorem bfill_put (k : IntKind) (f : Nat → Int) (n s i : Nat) (hi : i + 1 + s = n) : (arrK k (bfill f n s) n).setIfInBounds i (.int k (f i)) = arrK k (bfill f n (s + 1)) n := by
  rw [arrK_set]
  refine arrK_congr fun t _ => ?_
  unfold bfill
  by_cases h : t = i
  · subst h
    rw [if_pos rfl, if_pos (by omega)]
  · have e1 : (n ≤ t + (s + 1)) ↔ (n ≤ t + s) := by omega
    simp [h, e1]
theorem bfill_at {k : IntKind} {f : Nat → Int} {n s i : Nat} (hi : i + 1 + s = n) : (arrK k (bfill f n s) n)[i]? = some (.int k 0) := by
  rw [arrK_get (by omega), bfill, if_neg (by omega)]

theorem div_256 (n : Int) (s : Nat) : n / 2 ^ (8 * s) / 256 = n / 2 ^ (8 * (s + 1)) := by
  rw [show 8 * (s + 1) = 8 * s + 8 by omega, Int.pow_add, ← Int.ediv_ediv_of_nonneg (Int.le_of_lt (Int.pow_pos (by decide)))]
  rfl

theorem renc_number (n : Int) (size : Nat) (w : World) (h0 : 0 ≤ n) (h1 : n ≤ 18446744073709551615) (hs1 : 1 ≤ size) (hs8 : size ≤ 8)
    (hmk : ∀ W, (Instr.makeSlice 31 (.int .i64 size) (.int .i64 size)).run Tryd.prog W = .ok (.slice (some ⟨W.heap.size, 0, none⟩) size size) (W.alloc (.cells (arrK .u8 (fun _ => 0) size) 5))) :
    Calls Tryd.prog 135 #[.int .u64 n, .int .i64 size] w fun e w' => ∃ v, e = .returned v ∧ OwnS 5 .u8 w' w.heap.size v (beL size n) ∧ Up w w' := by
  obtain ⟨f, hf⟩ : ∃ f : Nat → Int, (fun i => n / 2 ^ (8 * (size - 1 - i)) % 256) = f := ⟨_, rfl⟩
  have HL : Hid (beL size n = (List.range size).map f) := hid (by rw [← hf]; rfl)
  have HF := hid hf
  have HX : Hid (n / 2 ^ (8 * 0) = n) := hid (by simp)
  have HDiv := hid (div_256 n)
  have HNn : Hid (∀ s, 0 ≤ n / 2 ^ (8 * s) ∧ n / 2 ^ (8 * s) ≤ n) := hid fun s => ⟨Int.ediv_nonneg h0 (Int.le_of_lt (Int.pow_pos (by decide))), Int.ediv_le_self _ h0⟩
  clear hf
  go_enter Tryd.func135, Tryd.ntmps135
  go_wp2_with fail
  clear hmk
  obtain ⟨o, ho⟩ : ∃ o, w.heap.size = o := ⟨_, rfl⟩
  rw [ho]
  have hb0 : Blk (w.alloc (.cells (arrK .u8 (fun _ => 0) size) 5)) o 5 (arrK .u8 (bfill f size 0) size) := Blk.new ho (bfill_zero _ _ _)
  go_loopw [0, 6] (fun vn vi wr => ∃ s : Nat, s ≤ size ∧ vi = .int .i64 ((size : Int) - 1 - s) ∧ vn = .int .u64 (n / 2 ^ (8 * s)) ∧ Hid (Blk wr o 5 (arrK .u8 (bfill f size s) size)) ∧ Hid (Up w wr)) (fun _ vi _ => (intOf vi + 1).toNat)
  case atStart => exact ⟨0, by omega, by simp, by rw [HX.out], hid hb0, hid ((Up.refl w).alloc _)⟩
  case round =>
    have HOo := hid ho
    clear ho hb0
    obtain ⟨s, hs, rfl, rfl, HB, HU⟩ := hrel
    by_cases hlt : s < size
    · obtain ⟨i, hi⟩ : ∃ i : Nat, i + 1 + s = size := ⟨size - 1 - s, by omega⟩
      have q1 := HB.out.val (bfill_at hi)
      have q2 := HB.out.thawed i
      have HP := hid (bfill_put .u8 f size s i hi)
      have HFI : Hid (f i = n / 2 ^ (8 * s) % 256) := hid (by rw [← HF.out]; show n / 2 ^ (8 * (size - 1 - i)) % 256 = _; rw [show size - 1 - i = s by omega])
      have HD := hid (HDiv.out s)
      obtain ⟨n0, n1⟩ := HNn.out s
      rw [show (size : Int) - 1 - s = i by omega]
      generalize n / 2 ^ (8 * s) = x at *
      go_wp2_with fail
      go_roundw
      case rel => exact ⟨s + 1, by omega, congrArg (Value.int .i64) (by omega), by rw [← HD.out], hid (by rw [← HP.out, HFI.out]; exact HB.out.wrote _ _), hid (HU.out.setCell (by have := HOo.out; show w.heap.size ≤ o; omega) _)⟩
      case measure => simp [intOf]
    · have hss : s = size := by omega
      have HB2 := hid HB.out
      rw [hss, bfill_all] at HB2
      rw [show (size : Int) - 1 - s = -1 by omega]
      clear HB hss hlt hs
      go_wp2
      go_ret
      exact ⟨_, rfl, by rw [HL.out]; exact HB2.out.own (by have := HOo.out; omega) (by omega), HU.out⟩

theorem renc_four (n : Int) (w : World) (h0 : 0 ≤ n) (h1 : n ≤ 18446744073709551615) :
    Calls Tryd.prog 135 #[.int .u64 n, .int .i64 4] w fun e w' => ∃ v, e = .returned v ∧ OwnS 5 .u8 w' w.heap.size v (beL 4 n) ∧ Up w w' :=
  renc_number n 4 w h0 h1 (by omega) (by omega) fun _ => by kernel_rfl
theorem renc_eight (n : Int) (w : World) (h0 : 0 ≤ n) (h1 : n ≤ 18446744073709551615) :
    Calls Tryd.prog 135 #[.int .u64 n, .int .i64 8] w fun e w' => ∃ v, e = .returned v ∧ OwnS 5 .u8 w' w.heap.size v (beL 8 n) ∧ Up w w' :=
  renc_number n 8 w h0 h1 (by omega) (by omega) fun _ => by kernel_rfl
end Go.Proofs.YtdlcmpbpdbpanaaDoor
namespace Go.Proofs.YtdlcmpbpdbpanaaDoor
open Go.RowKit Go.Sp
set_option maxHeartbeats 2000000
set_option maxRecDepth 20000

theorem within_1 (D k n : Int) (b l : Value) (g : Nat) (w : World) (hb : w.cell? ⟨g, 0, none⟩ = some (.int .i64 D)) (h1 : 1 ≤ D) (h8 : D ≤ 8)
    (hf : ∀ w', Up w w' → Calls Tryd.prog 153 #[itm k n b l, .int .i64 (D - 1)] w' fun e w'' => e = .returned (.bool true) ∧ Up w' w'') :
    Calls Tryd.prog 182 #[itm k n b l, .pointer (some ⟨g, 0, none⟩)] w fun e w' => e = .returned (.bool false) ∧ Up w w' := by
  have HF := hid hf
  clear hf
  go_enter Tryd.func182, Tryd.ntmps182
  have lg := cell_in hb
  go_wp2_with fail
  refine (HF.out _ ((Up.refl w).alloc _)).mono ?_
  rintro e w1 ⟨rfl, hU1⟩
  go_wp2
  go_ret
  exact ⟨rfl, ((Up.refl w).alloc _).trans hU1⟩

theorem IndexFuncQ (c : Value) (ess : List (List Int)) (R : Int → Int → Value → Value → List Int → Prop) (v : Value) (w : World) (hv : ItmRow R w v ess)
    (hf : ∀ k n b l es, R k n b l es → ∀ w', Up w w' → Calls Tryd.prog 182 #[itm k n b l, c] w' fun e w'' => e = .returned (.bool false) ∧ Up w' w'') :
    Calls Tryd.prog 200 #[v, .func (.func 182) #[] #[c]] w fun e w' => e = .returned (.int .i64 (-1)) ∧ Up w w' := by
  have HF := hid hf
  clear hf
  obtain ⟨a, cap, rfl, hc, hc63, _, hi⟩ := hv
  obtain ⟨m, hm⟩ : ∃ m, ess.length = m := ⟨_, rfl⟩
  rw [hm] at hc hi
  rw [hm]
  have HI := hid hi
  clear hi hm
  go_enter Tryd.func200, Tryd.ntmps200
  go_wp2_with fail
  go_loopw [8] (fun vi wr => ∃ i : Nat, i ≤ m ∧ vi = .int .i64 i ∧ Hid (Up w wr)) (fun vi _ => m - (intOf vi).toNat)
  case atStart => exact ⟨0, by omega, rfl, hid (Up.refl _)⟩
  case round =>
    obtain ⟨i, him, rfl, HU⟩ := hrel
    by_cases hl : i < m
    · obtain ⟨b, off, k, n, vb, vl, rfl, hc, hr⟩ := HI.out i hl
      obtain ⟨c0, c1, c2, c3⟩ := hc.up HU.out
      have HE := hid (HF.out k n vb vl _ hr)
      clear hc hr
      go_wp2_with fail
      refine (HE.out _ HU.out).mono ?_
      rintro e w2 ⟨rfl, hU2⟩
      have HU2 := hid (HU.out.trans hU2)
      clear hU2 c0 c1 c2 c3 HE
      go_wp2_with fail
      go_roundw
      case rel => exact ⟨i + 1, by omega, by go_num, HU2⟩
      case measure => simp [intOf]; omega
    · have hl2 : decide (i < m) = false := by simpa using hl
      go_wp2
      go_ret
      exact ⟨rfl, HU.out⟩

theorem ContainsFuncQ (c : Value) (ess : List (List Int)) (R : Int → Int → Value → Value → List Int → Prop) (v : Value) (w : World) (hv : ItmRow R w v ess)
    (hf : ∀ k n b l es, R k n b l es → ∀ w', Up w w' → Calls Tryd.prog 182 #[itm k n b l, c] w' fun e w'' => e = .returned (.bool false) ∧ Up w' w'') :
    Calls Tryd.prog 181 #[v, .func (.func 182) #[] #[c]] w fun e w' => e = .returned (.bool false) ∧ Up w w' := by
  have HI := hid (IndexFuncQ c ess R v w hv hf)
  clear hf hv
  go_enter Tryd.func181, Tryd.ntmps181
  go_wp2_with fail
  refine HI.out.mono ?_
  rintro e w2 ⟨rfl, hU2⟩
  go_wp2
  go_ret
  exact ⟨rfl, hU2⟩

theorem within_list (D : Int) (v : Value) (ess : List (List Int)) (R : Int → Int → Value → Value → List Int → Prop) (w : World) (h1 : 1 ≤ D) (h8 : D ≤ 8) (hl : ess.length ≤ 1000) (hv : ItmRow R w v ess)
    (hf : ∀ k n b l es, R k n b l es → ∀ w', Up w w' → Calls Tryd.prog 153 #[itm k n b l, .int .i64 (D - 1)] w' fun e w'' => e = .returned (.bool true) ∧ Up w' w'') :
    Calls Tryd.prog 153 #[itm 3 0 nilS v, .int .i64 D] w fun e w' => e = .returned (.bool true) ∧ Up w w' := by
  have HF := hid hf
  have HV := hid hv
  obtain ⟨a, cap, rfl, hc, hc63, _, _⟩ := hv
  obtain ⟨m, hm⟩ : ∃ m, ess.length = m := ⟨_, rfl⟩
  rw [hm] at HV hl hc
  rw [hm]
  have d1 : decide (D > 0) = true := by simp; omega
  have d2 : decide ((m : Int) ≤ 1000) = true := by simp; omega
  clear hf hm
  go_enter Tryd.func153, Tryd.ntmps153
  go_wp2_with fail
  have hg : ((w.alloc (.cells #[.int .i64 3, .int .i64 0, nilS, .slice a m cap] 87)).alloc (.cells #[.int .i64 D] 3)).cell? ⟨w.heap.size + 1, 0, none⟩ = some (.int .i64 D) := (Blk.new (cs := #[.int .i64 D]) (t := 3) (w := w.alloc (.cells #[.int .i64 3, .int .i64 0, nilS, .slice a m cap] 87)) (by simp) rfl).val rfl
  have HG := hid hg
  clear hg
  refine (ContainsFuncQ (.pointer (some ⟨w.heap.size + 1, 0, none⟩)) ess R _ _ (HV.out.up (((Up.refl w).alloc _).alloc _) fun _ _ _ _ _ h => h) (fun k n b l es hr w' hU => within_1 D k n b l _ w' (by rw [hU.cell (cell_in HG.out)]; exact HG.out) h1 h8 fun w'' hU2 => HF.out k n b l es hr w'' ((((Up.refl w).alloc _).alloc _).trans (hU.trans hU2)))).mono ?_
  rintro e w1 ⟨rfl, hU1⟩
  go_wp2
  go_ret
  exact ⟨rfl, (((Up.refl w).alloc _).alloc _).trans hU1⟩

theorem within_leaf (D k n : Int) (b l : Value) (es : List Int) (w : World) (h : Leaf w k n b l es) :
    Calls Tryd.prog 153 #[itm k n b l, .int .i64 D] w fun e w' => e = .returned (.bool true) ∧ Up w w' := by
  rcases h with ⟨rfl, rfl, rfl, _⟩ | ⟨rfl, rfl, rfl, xs, h, _⟩
  · go_enter Tryd.func153, Tryd.ntmps153
    go_wp2
    go_ret
    exact ⟨rfl, ((Up.refl w).alloc _).alloc _⟩
  · obtain ⟨a, cap, rfl, _⟩ := h
    go_enter Tryd.func153, Tryd.ntmps153
    go_wp2
    go_ret
    exact ⟨rfl, ((Up.refl w).alloc _).alloc _⟩

theorem within_ok : ∀ (d : Nat) (D k n : Int) (b l : Value) (es : List Int) (w : World), (d : Int) ≤ D → D ≤ 8 → ItmAt w d k n b l es →
    Calls Tryd.prog 153 #[itm k n b l, .int .i64 D] w fun e w' => e = .returned (.bool true) ∧ Up w w'
  | 0, D, k, n, b, l, es, w, _, _, h => within_leaf D k n b l es w h
  | d + 1, D, k, n, b, l, es, w, h1, h8, h => by
    rcases h with h | ⟨rfl, rfl, rfl, ess, hl, hr, _⟩
    · exact within_leaf D k n b l es w h
    · exact within_list D l ess _ w (by omega) h8 hl hr fun k n b l es h w' hU => within_ok d (D - 1) k n b l es w' (by omega) (by omega) (h.up hU)

theorem encValid_ok {d : Nat} {k n : Int} {b l : Value} {es : List Int} {w : World} (h : ItmAt w d k n b l es) (hd : d ≤ 8) :
    Calls Tryd.prog 119 #[itm k n b l] w fun e w' => e = .returned (.bool true) ∧ Up w w' := by
  have HW := hid (fun w' (hU : Up w w') => within_ok d 8 k n b l es w' (by omega) (by omega) (h.up hU))
  clear h
  go_enter Tryd.func119, Tryd.ntmps119
  go_wp2_with fail
  refine (HW.out _ ((Up.refl w).alloc _)).mono ?_
  rintro e w1 ⟨rfl, hU1⟩
  go_wp2
  go_ret
  exact ⟨rfl, ((Up.refl w).alloc _).trans hU1⟩

theorem beL_snoc (size : Nat) (n : Int) (i : Nat) (hi : i < size) : (beL size n).take (i + 1) = (beL size n).take i ++ [n / 2 ^ (8 * (size - 1 - i)) % 256] := by
  rw [List.take_add_one]
  congr 1
  have : i < (beL size n).length := by rw [beL_length]; exact hi
  rw [List.getElem?_eq_getElem this]
  simp [beL]
end Go.Proofs.YtdlcmpbpdbpanaaDoor
