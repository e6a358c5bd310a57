/- A row loaded in a region that draws its order, walked once. Over any program. Package denom, at one denomination, and its reference. Package epoch, and its reference: valid records. Package epoch, and its reference: the item of a record. Slices of integers of the call's own: what an append leaves. -/
import Derived.Test.YtkimojconidhlaaDoorMB2
import Derived.Test.YtkimojconidhlaaDoorMB1
import Derived.Test.YtkimojconidhlaaDoorMB16
import Derived.Test.YtkimojconidhlaaDoorMB12
import Derived.Test.YtkimojconidhlaaDoorMB13
import Derived.Test.YtkimojconidhlaaDoorMB8
import Derived.Test.YtkimojconidhlaaDoorMB11
import Derived.Laws.Rows
import Derived.BigQuiet
namespace Go.Sp
open Go.RowKit

theorem quiet_load_row {P : Program} {C : World → Prop} {a : Act} {o : Oper} {K : Act → Prop} (ty : TypeId) (x : Operand) (ho : o.op = .load ty x) (g : Nat) (hx : a.eval x = .pointer (some ⟨g, 0, none⟩)) (t : TypeId) (cs : Array Value) (d : TypeDesc)
    (hC : ∀ w, C w → Blk w g t cs) (hu : P.underlying ty = some d) (hd : (match d with | .struct _ | .array _ _ => true | _ => false) = true) (hi : (P.info? ty).map (·.size) = some cs.size) (hk : K (a.put o.dst (.agg cs))) : o.quiet P a C K :=
  ⟨.agg cs, fun w hw => by
    unfold Oper.quietAt execOp
    simp only [ho, hx, Instr.loadAt, Instr.sureAddr, Sem.run_bind, Sem.run_pure, Result.andThen_ok, run_loadVar_row w g t ty cs (0, 0) d (hC w hw) hu hd hi]
    exact ⟨rfl, rfl⟩, hk⟩

theorem Blk.from {w : World} {g : Nat} {t : TypeId} {cs : Array Value} (h : Blk w g t cs) : ∀ w', (∃ p : UpFrom w, w' = p.w') → Blk w' g t cs := fun _ ⟨p, hp⟩ => hp ▸ h.up p.up

/-- The same at an operation with a guard that says yes. -/
theorem wpList_load_rowG {P : Program} {ops : Array Oper} {rest : List Oper} {o : Oper} {a : Act} {w : World} {Q : Exit → Act → World → Prop} (hw : Region.wanted o (yielded ops a.tmps) = true) (ty : TypeId) (x : Operand) (ho : o.op = .load ty x)
    (g : Nat) (hx : a.eval x = .pointer (some ⟨g, 0, none⟩)) (t : TypeId) (cs : Array Value) (fr : Nat × Nat) (d : TypeDesc) (hg : w.heap[g]? = some (.cells cs t fr))
    (hu : P.underlying ty = some d) (hd : (match d with | .struct _ | .array _ _ => true | _ => false) = true) (hi : (P.info? ty).map (·.size) = some cs.size)
    (h : wpList P ops Q rest (a.put o.dst (.agg cs)) w) : wpList P ops Q (o :: rest) a w :=
  wpList_step fun K hK => by
    rw [if_pos hw]
    exact wp_load_row ty x ho g hx t cs fr d hg hu hd hi (hK _ _ h)
end Go.Sp
namespace Go.Proofs.YtkimojconidhlaaDoor
open Go.RowKit Go.Sp
set_option maxHeartbeats 4000000
set_option maxRecDepth 20000

theorem oneB_zero (d : Int) : oneB 0 d = (d == 0) := rfl
theorem oneB_pos {v d : Int} (h : v ≠ 0) : oneB v d = (decide (v ≥ 1) && (decide (v ≤ 1099511627776) && (decide (d ≥ 0) && (decide (d ≤ 5) && v % 2 ^ d.toNat == 0)))) := if_neg h
theorem depth_cases {d : Int} (h0 : d ≥ 0) (h1 : d ≤ 5) : d = 0 ∨ d = 1 ∨ d = 2 ∨ d = 3 ∨ d = 4 ∨ d = 5 := by omega

theorem denSingle_any (v d : Int) (w : World) : Calls Tryd.prog 48 #[.agg #[.int .i64 v, .int .i64 d]] w fun e w' => e = .returned (.bool (oneB v d)) ∧ Up w w' := by
  obtain ⟨B, hB⟩ : ∃ B, oneB v d = B := ⟨_, rfl⟩
  rw [hB]
  by_cases hv : v = 0
  · subst hv
    rw [oneB_zero] at hB
    by_cases hd : d = 0
    · subst hd
      obtain rfl : B = true := hB.symm
      go_enter Tryd.func48, Tryd.ntmps48
      go_wp2
      go_ret
      exact ⟨rfl, (Up.refl w).alloc _⟩
    · have e1 : (d == 0) = false := by simpa using hd
      obtain rfl : B = false := by rw [← hB, e1]
      clear hB
      have hB0 := Blk.new (w := w) (g := w.heap.size) (t := 66) (cs := #[.int .i64 0, .int .i64 d]) rfl rfl
      have f0 := cellF (hB0.val (i := 0) rfl)
      have f1 := cellF (hB0.val (i := 1) rfl)
      clear hB0
      go_enter Tryd.func48, Tryd.ntmps48
      go_wp2_with fail
      refine wp_region_up (by kernel_rfl) (by kernel_rfl) ?_
      repeat (go_big_quiet_step (fail))
      refine wpQuiet_nil ?_
      rintro w1 ⟨⟨_, hU1⟩, rfl⟩
      try dsimp only
      go_wp2
      go_ret
      exact ⟨rfl, ((Up.refl w).alloc _).trans hU1⟩
  have e0 : (v == 0) = false := by simpa using hv
  rw [oneB_pos hv] at hB
  by_cases h1 : v ≥ 1
  case neg =>
    have d1 : decide (v ≥ 1) = false := by simpa using h1
    obtain rfl : B = false := by rw [← hB]; simp [d1]
    clear h1 hB hv 
    have hB0 := Blk.new (w := w) (g := w.heap.size) (t := 66) (cs := #[.int .i64 v, .int .i64 d]) rfl rfl
    have f0 := cellF (hB0.val (i := 0) rfl)
    have f1 := cellF (hB0.val (i := 1) rfl)
    clear hB0
    go_enter Tryd.func48, Tryd.ntmps48
    go_wp2_with fail
    refine wp_region_up (by kernel_rfl) (by kernel_rfl) ?_
    repeat (go_big_quiet_step (fail))
    refine wpQuiet_nil ?_
    rintro w1 ⟨⟨_, hU1⟩, rfl⟩
    try dsimp only
    go_wp2
    go_ret
    exact ⟨rfl, ((Up.refl w).alloc _).trans hU1⟩
  have d1 : decide (v ≥ 1) = true := by simpa using h1
  by_cases h2 : v ≤ 1099511627776
  case neg =>
    have d2 : decide (v ≤ 1099511627776) = false := by simpa using h2
    obtain rfl : B = false := by rw [← hB]; simp [d1, d2]
    clear h2 hB hv h1
    have hB0 := Blk.new (w := w) (g := w.heap.size) (t := 66) (cs := #[.int .i64 v, .int .i64 d]) rfl rfl
    have f0 := cellF (hB0.val (i := 0) rfl)
    have f1 := cellF (hB0.val (i := 1) rfl)
    clear hB0
    go_enter Tryd.func48, Tryd.ntmps48
    go_wp2_with fail
    refine wp_region_up (by kernel_rfl) (by kernel_rfl) ?_
    repeat (go_big_quiet_step (fail))
    refine wpQuiet_nil ?_
    rintro w1 ⟨⟨_, hU1⟩, rfl⟩
    try dsimp only
    go_wp2
    go_ret
    exact ⟨rfl, ((Up.refl w).alloc _).trans hU1⟩
  have d2 : decide (v ≤ 1099511627776) = true := by simpa using h2
  by_cases h3 : d ≥ 0
  case neg =>
    have d3 : decide (d ≥ 0) = false := by simpa using h3
    obtain rfl : B = false := by rw [← hB]; simp [d1, d2, d3]
    clear h3 hB hv h1 h2
    have hB0 := Blk.new (w := w) (g := w.heap.size) (t := 66) (cs := #[.int .i64 v, .int .i64 d]) rfl rfl
    have f0 := cellF (hB0.val (i := 0) rfl)
    have f1 := cellF (hB0.val (i := 1) rfl)
    clear hB0
    go_enter Tryd.func48, Tryd.ntmps48
    go_wp2_with fail
    refine wp_region_up (by kernel_rfl) (by kernel_rfl) ?_
    repeat (go_big_quiet_step (fail))
    refine wpQuiet_nil ?_
    rintro w1 ⟨⟨_, hU1⟩, rfl⟩
    try dsimp only
    go_wp2
    go_ret
    exact ⟨rfl, ((Up.refl w).alloc _).trans hU1⟩
  have d3 : decide (d ≥ 0) = true := by simpa using h3
  by_cases h4 : d ≤ 5
  case neg =>
    have d4 : decide (d ≤ 5) = false := by simpa using h4
    obtain rfl : B = false := by rw [← hB]; simp [d1, d2, d3, d4]
    clear h4 hB hv h1 h2 h3
    have hB0 := Blk.new (w := w) (g := w.heap.size) (t := 66) (cs := #[.int .i64 v, .int .i64 d]) rfl rfl
    have f0 := cellF (hB0.val (i := 0) rfl)
    have f1 := cellF (hB0.val (i := 1) rfl)
    clear hB0
    go_enter Tryd.func48, Tryd.ntmps48
    go_wp2_with fail
    refine wp_region_up (by kernel_rfl) (by kernel_rfl) ?_
    repeat (go_big_quiet_step (fail))
    refine wpQuiet_nil ?_
    rintro w1 ⟨⟨_, hU1⟩, rfl⟩
    try dsimp only
    go_wp2
    go_ret
    exact ⟨rfl, ((Up.refl w).alloc _).trans hU1⟩
  have d4 : decide (d ≤ 5) = true := by simpa using h4
  have hm : v.tmod (2 ^ d.toNat) = v % 2 ^ d.toNat := Int.tmod_eq_emod_of_nonneg (by omega)
  have hB1 : B = (v % 2 ^ d.toNat == 0) := by rw [← hB, d1, d2, d3, d4]; rfl
  clear hB
  rcases depth_cases h3 h4 with rfl | rfl | rfl | rfl | rfl | rfl
  · have hm2 : v.tmod 1 = v % 1 := hm
    have hr : IntKind.i64.wrap (v % 1) = v % 1 := IntWalk.i64_in _ (by have := Int.emod_nonneg v (show (1 : Int) ≠ 0 by omega); have := Int.emod_lt_of_pos v (show (0 : Int) < 1 by omega); omega)
    have hB2 : B = (v % 1 == 0) := hB1
    clear hm hB1 hv h1 h2 h3 h4
    obtain rfl : B = true := by rw [hB2]; simp
    clear hB2

    have hB0 := Blk.new (w := w) (g := w.heap.size) (t := 66) (cs := #[.int .i64 v, .int .i64 0]) rfl rfl
    have f0 := cellF (hB0.val (i := 0) rfl)
    have f1 := cellF (hB0.val (i := 1) rfl)
    clear hB0
    go_enter Tryd.func48, Tryd.ntmps48
    go_wp2_with fail
    refine wp_region_up (by kernel_rfl) (by kernel_rfl) ?_
    repeat (go_big_quiet_step (fail))
    refine wpQuiet_nil ?_
    rintro w1 ⟨⟨_, hU1⟩, rfl⟩
    try dsimp only
    go_wp2
    go_ret
    exact ⟨rfl, ((Up.refl w).alloc _).trans hU1⟩
  · have hm2 : v.tmod 2 = v % 2 := hm
    have hr : IntKind.i64.wrap (v % 2) = v % 2 := IntWalk.i64_in _ (by have := Int.emod_nonneg v (show (2 : Int) ≠ 0 by omega); have := Int.emod_lt_of_pos v (show (0 : Int) < 2 by omega); omega)
    have hB2 : B = (v % 2 == 0) := hB1
    clear hm hB1 hv h1 h2 h3 h4
    subst hB2

    have hB0 := Blk.new (w := w) (g := w.heap.size) (t := 66) (cs := #[.int .i64 v, .int .i64 1]) rfl rfl
    have f0 := cellF (hB0.val (i := 0) rfl)
    have f1 := cellF (hB0.val (i := 1) rfl)
    clear hB0
    go_enter Tryd.func48, Tryd.ntmps48
    go_wp2_with fail
    refine wp_region_up (by kernel_rfl) (by kernel_rfl) ?_
    repeat (go_big_quiet_step (fail))
    refine wpQuiet_nil ?_
    rintro w1 ⟨⟨_, hU1⟩, rfl⟩
    try dsimp only
    go_wp2
    go_ret
    exact ⟨rfl, ((Up.refl w).alloc _).trans hU1⟩
  · have hm2 : v.tmod 4 = v % 4 := hm
    have hr : IntKind.i64.wrap (v % 4) = v % 4 := IntWalk.i64_in _ (by have := Int.emod_nonneg v (show (4 : Int) ≠ 0 by omega); have := Int.emod_lt_of_pos v (show (0 : Int) < 4 by omega); omega)
    have hB2 : B = (v % 4 == 0) := hB1
    clear hm hB1 hv h1 h2 h3 h4
    subst hB2

    have hB0 := Blk.new (w := w) (g := w.heap.size) (t := 66) (cs := #[.int .i64 v, .int .i64 2]) rfl rfl
    have f0 := cellF (hB0.val (i := 0) rfl)
    have f1 := cellF (hB0.val (i := 1) rfl)
    clear hB0
    go_enter Tryd.func48, Tryd.ntmps48
    go_wp2_with fail
    refine wp_region_up (by kernel_rfl) (by kernel_rfl) ?_
    repeat (go_big_quiet_step (fail))
    refine wpQuiet_nil ?_
    rintro w1 ⟨⟨_, hU1⟩, rfl⟩
    try dsimp only
    go_wp2
    go_ret
    exact ⟨rfl, ((Up.refl w).alloc _).trans hU1⟩
  · have hm2 : v.tmod 8 = v % 8 := hm
    have hr : IntKind.i64.wrap (v % 8) = v % 8 := IntWalk.i64_in _ (by have := Int.emod_nonneg v (show (8 : Int) ≠ 0 by omega); have := Int.emod_lt_of_pos v (show (0 : Int) < 8 by omega); omega)
    have hB2 : B = (v % 8 == 0) := hB1
    clear hm hB1 hv h1 h2 h3 h4
    subst hB2

    have hB0 := Blk.new (w := w) (g := w.heap.size) (t := 66) (cs := #[.int .i64 v, .int .i64 3]) rfl rfl
    have f0 := cellF (hB0.val (i := 0) rfl)
    have f1 := cellF (hB0.val (i := 1) rfl)
    clear hB0
    go_enter Tryd.func48, Tryd.ntmps48
    go_wp2_with fail
    refine wp_region_up (by kernel_rfl) (by kernel_rfl) ?_
    repeat (go_big_quiet_step (fail))
    refine wpQuiet_nil ?_
    rintro w1 ⟨⟨_, hU1⟩, rfl⟩
    try dsimp only
    go_wp2
    go_ret
    exact ⟨rfl, ((Up.refl w).alloc _).trans hU1⟩
  · have hm2 : v.tmod 16 = v % 16 := hm
    have hr : IntKind.i64.wrap (v % 16) = v % 16 := IntWalk.i64_in _ (by have := Int.emod_nonneg v (show (16 : Int) ≠ 0 by omega); have := Int.emod_lt_of_pos v (show (0 : Int) < 16 by omega); omega)
    have hB2 : B = (v % 16 == 0) := hB1
    clear hm hB1 hv h1 h2 h3 h4
    subst hB2

    have hB0 := Blk.new (w := w) (g := w.heap.size) (t := 66) (cs := #[.int .i64 v, .int .i64 4]) rfl rfl
    have f0 := cellF (hB0.val (i := 0) rfl)
    have f1 := cellF (hB0.val (i := 1) rfl)
    clear hB0
    go_enter Tryd.func48, Tryd.ntmps48
    go_wp2_with fail
    refine wp_region_up (by kernel_rfl) (by kernel_rfl) ?_
    repeat (go_big_quiet_step (fail))
    refine wpQuiet_nil ?_
    rintro w1 ⟨⟨_, hU1⟩, rfl⟩
    try dsimp only
    go_wp2
    go_ret
    exact ⟨rfl, ((Up.refl w).alloc _).trans hU1⟩
  · have hm2 : v.tmod 32 = v % 32 := hm
    have hr : IntKind.i64.wrap (v % 32) = v % 32 := IntWalk.i64_in _ (by have := Int.emod_nonneg v (show (32 : Int) ≠ 0 by omega); have := Int.emod_lt_of_pos v (show (0 : Int) < 32 by omega); omega)
    have hB2 : B = (v % 32 == 0) := hB1
    clear hm hB1 hv h1 h2 h3 h4
    subst hB2

    have hB0 := Blk.new (w := w) (g := w.heap.size) (t := 66) (cs := #[.int .i64 v, .int .i64 5]) rfl rfl
    have f0 := cellF (hB0.val (i := 0) rfl)
    have f1 := cellF (hB0.val (i := 1) rfl)
    clear hB0
    go_enter Tryd.func48, Tryd.ntmps48
    go_wp2_with fail
    refine wp_region_up (by kernel_rfl) (by kernel_rfl) ?_
    repeat (go_big_quiet_step (fail))
    refine wpQuiet_nil ?_
    rintro w1 ⟨⟨_, hU1⟩, rfl⟩
    try dsimp only
    go_wp2
    go_ret
    exact ⟨rfl, ((Up.refl w).alloc _).trans hU1⟩

end Go.Proofs.YtkimojconidhlaaDoor
namespace Go.Proofs.YtkimojconidhlaaDoor
open Go.RowKit Go.Sp
set_option maxHeartbeats 4000000
set_option maxRecDepth 20000

theorem denValid_one (v d : Int) (b : Nat) (w : World) (hb : Blk w b 66 #[.int .i64 v, .int .i64 d]) : Calls Tryd.prog 28 #[.slice (some ⟨b, 0, none⟩) 1 1] w fun e w' => e = .returned (.bool (oneB v d)) ∧ Up w w' := by
  have M1 := hid (fun w' => denSingle_any v d w')
  have HB := hid hb
  generalize oneB v d = T at *
  clear hb
  go_enter Tryd.func28, Tryd.ntmps28
  go_wp2_with fail
  go_loopw [15] (fun vi wr => ∃ i : Nat, i ≤ 1 ∧ vi = .int .i64 i ∧ Hid (i = 1 → T = true) ∧ Hid (Up w wr)) (fun vi _ => 1 - (intOf vi).toNat)
  case atStart => exact ⟨0, by omega, rfl, hid (fun h => by omega), hid (Up.refl _)⟩
  case round =>
    obtain ⟨i, hi, rfl, HT, HU⟩ := hrel
    by_cases hl : i < 1
    · obtain rfl : i = 0 := by omega
      have q0 := (HB.out.up HU.out).val (i := 0) rfl
      have q1 := (HB.out.up HU.out).val (i := 1) rfl
      have hlt : b < wr.heap.size := (HB.out.up HU.out).lt
      clear HT
      go_wp2_with fail
      refine (M1.out _).mono ?_
      rintro e w2 ⟨rfl, hU2⟩
      have HU2 := hid ((HU.out.alloc (.cells #[.int .i64 v, .int .i64 d] 66)).trans hU2)
      clear hU2 q0 q1
      cases T
      · go_wp2
        go_ret
        exact ⟨rfl, HU2.out⟩
      · go_wp2_with fail
        refine wp_region_up (by kernel_rfl) (by kernel_rfl) ?_
        repeat (go_big_quiet_step (fail))
        refine wpQuiet_nil ?_
        rintro w3 ⟨⟨_, hU3⟩, rfl⟩
        try dsimp only
        have HU3 := hid (HU2.out.trans hU3)
        clear hU3 HU2
        go_wp2
        go_roundw
        case rel => exact ⟨1, by omega, rfl, (by first | exact hid (fun _ => rfl) | exact hid (fun _ => trivial) | exact hid trivial), HU3⟩
        case measure => simp [intOf]
    · obtain rfl : i = 1 := by omega
      have hT : T = true := HT.out rfl
      subst hT
      go_wp2
      go_ret
      exact ⟨rfl, HU.out⟩

theorem denValid_two (v d v2 d2 : Int) (b : Nat) (w : World) (hb : Blk w b 66 #[.int .i64 v, .int .i64 d, .int .i64 v2, .int .i64 d2]) (h1 : oneB v d = true) (h2 : oneB v2 d2 = true) (hv : v < v2) : Calls Tryd.prog 28 #[.slice (some ⟨b, 0, none⟩) 2 2] w fun e w' => e = .returned (.bool true) ∧ Up w w' := by
  have M1 := hid (fun w' => denSingle_any v d w')
  have M2 := hid (fun w' => denSingle_any v2 d2 w')
  rw [h1] at M1
  rw [h2] at M2
  have HB := hid hb
  have e1 : decide (v2 < v) = false := by simp; omega
  have e2 : (v2 == v) = false := by simp; omega
  clear hb h1 h2 hv
  go_enter Tryd.func28, Tryd.ntmps28
  go_wp2_with fail
  go_loopw [15] (fun vi wr => ∃ i : Nat, i ≤ 2 ∧ vi = .int .i64 i ∧ Hid (Up w wr)) (fun vi _ => 2 - (intOf vi).toNat)
  case atStart => exact ⟨0, by omega, rfl, hid (Up.refl _)⟩
  case round =>
    obtain ⟨i, hi, rfl, HU⟩ := hrel
    by_cases hl : i < 2
    · have hi2 : i = 0 ∨ i = 1 := by omega
      have q0 := (HB.out.up HU.out).val (i := 0) rfl
      have q1 := (HB.out.up HU.out).val (i := 1) rfl
      have q2 := (HB.out.up HU.out).val (i := 2) rfl
      have q3 := (HB.out.up HU.out).val (i := 3) rfl
      have hlt : b < wr.heap.size := (HB.out.up HU.out).lt
      rcases hi2 with rfl | rfl
      · clear q2 q3
        go_wp2_with fail
        refine (M1.out _).mono ?_
        rintro e w2 ⟨rfl, hU2⟩
        have HU2 := hid ((HU.out.alloc (.cells #[.int .i64 v, .int .i64 d] 66)).trans hU2)
        clear hU2 q0 q1
        go_wp2_with fail
        refine wp_region_up (by kernel_rfl) (by kernel_rfl) ?_
        repeat (go_big_quiet_step (fail))
        refine wpQuiet_nil ?_
        rintro w3 ⟨⟨_, hU3⟩, rfl⟩
        try dsimp only
        have HU3 := hid (HU2.out.trans hU3)
        clear hU3 HU2
        go_wp2
        go_roundw
        case rel => exact ⟨1, by omega, rfl, HU3⟩
        case measure => simp [intOf]
      · have q4 := hid ((Blk.new (w := wr) (g := wr.heap.size) (t := 66) (cs := #[.int .i64 v2, .int .i64 d2]) rfl rfl))
        rw [show ((1 : Nat) : Int) = 1 from rfl] at *
        clear q0 q1
        go_wp2_with fail
        refine (M2.out _).mono ?_
        rintro e w2 ⟨rfl, hU2⟩
        have HU2 := hid ((HU.out.alloc (.cells #[.int .i64 v2, .int .i64 d2] 66)).trans hU2)
        have r0 := (HB.out.up HU2.out).val (i := 0) rfl
        have r4 := (q4.out.up hU2).val (i := 0) rfl
        have r5 := (q4.out.up hU2).val (i := 1) rfl
        clear hU2 q2 q3
        have f0 := cellF r0
        have f4 := cellF r4
        have f5 := cellF r5
        clear r0 r4 r5 q4
        go_wp2_with fail
        refine wp_region_up (by kernel_rfl) (by kernel_rfl) ?_
        repeat (go_big_quiet_step (fail))
        refine wpQuiet_nil ?_
        rintro w3 ⟨⟨_, hU3⟩, rfl⟩
        try dsimp only
        have HU3 := hid (HU2.out.trans hU3)
        clear hU3 HU2 f0 f4 f5
        go_wp2
        go_roundw
        case rel => exact ⟨2, by omega, rfl, HU3⟩
        case measure => simp [intOf]
    · obtain rfl : i = 2 := by omega
      go_wp2
      go_ret
      exact ⟨rfl, HU.out⟩

/-- Is a record valid? -/
def recB (P Q G A B C kd nr co iv ni ka kb kc st un ac : Int) : Bool := enB kd nr st un ac && ((decide (co ≥ 0) && decide (co ≤ 16)) && (oneB iv ni && kvB P Q G A B C ka kb kc))
theorem and_turn (a b c d : Bool) : (a && (b && (c && d))) = (d && (a && (b && c))) := by cases a <;> cases b <;> cases c <;> cases d <;> rfl

theorem eValid_any (P Q G A B C kd nr co iv ni ka kb kc st un ac : Int) (w : World) (hP : -9223372036854775808 ≤ P) (hQ : Q ≤ 9223372036854775807) (hT : Tab w) :
    Calls Tryd.prog 10 #[bas P Q G A B C, epo kd nr co iv ni ka kb kc st un ac] w fun e w' => e = .returned (.bool (recB P Q G A B C kd nr co iv ni ka kb kc st un ac)) ∧ Up w w' := by
  have M1 := hid (fun w' => eNumbers_any kd nr st un ac w')
  have M2 := hid (fun w' => eWithin_any co 0 16 w')
  have M3 := hid (fun b w' hb => denValid_one iv ni b w' hb)
  have M4 := hid (fun w' (hU : Up w w') => resValid_any P Q G A B C ka kb kc w' hP hQ (hT.up hU))
  have HZ := hid (show iv = 0 → ni = 0 → oneB iv ni = true by rintro rfl rfl; rfl)
  obtain ⟨T, hT0⟩ : ∃ T, recB P Q G A B C kd nr co iv ni ka kb kc st un ac = T := ⟨_, rfl⟩
  have HB0 := hid hT0.symm
  rw [hT0]
  clear hT0 hT
  unfold recB at HB0
  unfold epo epoA
  generalize enB kd nr st un ac = b1 at *
  generalize (decide (co ≥ 0) && decide (co ≤ 16)) = b2 at *
  generalize oneB iv ni = b3 at *
  generalize kvB P Q G A B C ka kb kc = b4 at *
  obtain ⟨o, ho⟩ : ∃ o, w.heap.size = o := ⟨_, rfl⟩
  have HO := hid ho
  obtain ⟨o1, ho1⟩ : ∃ o1, o + 1 = o1 := ⟨_, rfl⟩
  have HO1 := hid ho1
  clear ho ho1
  go_enter Tryd.func10, Tryd.ntmps10
  go_wp2_with fail
  refine (M1.out _).mono ?_
  rintro e w1 ⟨rfl, hU1⟩
  have HA1 := hid (((nums_six (w := w) (t := 25) HO.out).up ((Up.refl _).alloc _)).up hU1)
  have HR1 := hid (((Blk.new (g := o1) (t := 46) (cs := #[.int .i64 kd, .int .i64 nr, .int .i64 co, .int .i64 iv, .int .i64 ni, .int .i64 ka, .int .i64 kb, .int .i64 kc, .int .i64 st, .int .i64 un, .int .i64 ac]) (by have := HO.out; have := HO1.out; simp; omega) rfl)).up hU1)
  have HU1 := hid ((((Up.refl w).alloc _).alloc _).trans hU1)
  clear hU1
  rw [HO.out, HO1.out]
  obtain ⟨⟨c0, c1, c2⟩, c3, c4, c5⟩ := HA1.out
  have r0 := HR1.out.val (i := 0) rfl
  have r1 := HR1.out.val (i := 1) rfl
  have r2 := HR1.out.val (i := 2) rfl
  have r3 := HR1.out.val (i := 3) rfl
  have r4 := HR1.out.val (i := 4) rfl
  have r5 := HR1.out.val (i := 5) rfl
  have r6 := HR1.out.val (i := 6) rfl
  have r7 := HR1.out.val (i := 7) rfl
  have r8 := HR1.out.val (i := 8) rfl
  have r9 := HR1.out.val (i := 9) rfl
  have r10 := HR1.out.val (i := 10) rfl
  by_cases h : b1 = true
  case neg =>
    have h' : b1 = false := by simpa using h
    have hX : T = false := by rw [HB0.out, h']; rfl
    subst hX
    rw [h']
    clear h h'
    go_wp2
    go_ret
    exact ⟨rfl, HU1.out⟩
  have HB1 : Hid (T = (b2 && (b3 && b4))) := hid (by rw [HB0.out, h]; rfl)
  have C1 := hid h
  rw [h]
  clear h HB0
  go_wp2_with fail
  refine (M2.out _).mono ?_
  rintro e w2 ⟨rfl, hU2⟩
  have HA2 := hid (HA1.out.up hU2)
  have HR2 := hid (HR1.out.up hU2)
  have HU2 := hid (HU1.out.trans hU2)
  clear hU2 HA1 HR1 HU1 c0 c1 c2 c3 c4 c5 r0 r1 r2 r3 r4 r5 r6 r7 r8 r9 r10
  obtain ⟨⟨c0, c1, c2⟩, c3, c4, c5⟩ := HA2.out
  have r0 := HR2.out.val (i := 0) rfl
  have r1 := HR2.out.val (i := 1) rfl
  have r2 := HR2.out.val (i := 2) rfl
  have r3 := HR2.out.val (i := 3) rfl
  have r4 := HR2.out.val (i := 4) rfl
  have r5 := HR2.out.val (i := 5) rfl
  have r6 := HR2.out.val (i := 6) rfl
  have r7 := HR2.out.val (i := 7) rfl
  have r8 := HR2.out.val (i := 8) rfl
  have r9 := HR2.out.val (i := 9) rfl
  have r10 := HR2.out.val (i := 10) rfl
  by_cases h : b2 = true
  case neg =>
    have h' : b2 = false := by simpa using h
    have hX : T = false := by rw [HB1.out, h']; rfl
    subst hX
    rw [h']
    clear h h'
    go_wp2
    go_ret
    exact ⟨rfl, HU2.out⟩
  have HB2 : Hid (T = (b3 && b4)) := hid (by rw [HB1.out, h]; rfl)
  have C2 := hid h
  rw [h]
  clear h HB1
  by_cases hv : iv = 0
  · by_cases hn : ni = 0
    · have h3 : b3 = true := HZ.out hv hn
      subst h3 hv hn
      have HB3 : Hid (T = b4) := hid (by rw [HB2.out]; rfl)
      clear HB2
      go_wp2_with fail
      refine (M4.out _ (HU2.out)).mono ?_
      rintro e w3 ⟨rfl, hU3⟩
      have HA3 := hid (HA2.out.up hU3)
      have HR3 := hid (HR2.out.up hU3)
      have HU3 := hid (HU2.out.trans hU3)
      clear hU3 HA2 HR2 HU2 c0 c1 c2 c3 c4 c5 r0 r1 r2 r3 r4 r5 r6 r7 r8 r9 r10
      obtain rfl : T = b4 := HB3.out
      go_wp2
      go_ret
      exact ⟨rfl, HU3.out⟩
    · have e1 : (ni == 0) = false := by simpa using hn
      subst hv
      clear hn
      go_wp2_with fail
      refine (M3.out _ _ (Blk.new rfl rfl)).mono ?_
      rintro e w3 ⟨rfl, hU3⟩
      have hU3 := ((Up.refl w2).alloc _).trans hU3
      have HA3 := hid (HA2.out.up hU3)
      have HR3 := hid (HR2.out.up hU3)
      have HU3 := hid (HU2.out.trans hU3)
      clear hU3 HA2 HR2 HU2 c0 c1 c2 c3 c4 c5 r0 r1 r2 r3 r4 r5 r6 r7 r8 r9 r10
      obtain ⟨⟨c0, c1, c2⟩, c3, c4, c5⟩ := HA3.out
      have r0 := HR3.out.val (i := 0) rfl
      have r1 := HR3.out.val (i := 1) rfl
      have r2 := HR3.out.val (i := 2) rfl
      have r3 := HR3.out.val (i := 3) rfl
      have r4 := HR3.out.val (i := 4) rfl
      have r5 := HR3.out.val (i := 5) rfl
      have r6 := HR3.out.val (i := 6) rfl
      have r7 := HR3.out.val (i := 7) rfl
      have r8 := HR3.out.val (i := 8) rfl
      have r9 := HR3.out.val (i := 9) rfl
      have r10 := HR3.out.val (i := 10) rfl
      by_cases h : b3 = true
      case neg =>
        have h' : b3 = false := by simpa using h
        have hX : T = false := by rw [HB2.out, h']; rfl
        subst hX
        rw [h']
        clear h h'
        go_wp2
        go_ret
        exact ⟨rfl, HU3.out⟩
      have HB3 : Hid (T = (b4)) := hid (by rw [HB2.out, h]; rfl)
      have C3 := hid h
      rw [h]
      clear h HB2
      go_wp2_with fail
      refine (M4.out _ (HU3.out)).mono ?_
      rintro e w4 ⟨rfl, hU4⟩
      have HA4 := hid (HA3.out.up hU4)
      have HR4 := hid (HR3.out.up hU4)
      have HU4 := hid (HU3.out.trans hU4)
      clear hU4 HA3 HR3 HU3 c0 c1 c2 c3 c4 c5 r0 r1 r2 r3 r4 r5 r6 r7 r8 r9 r10
      obtain rfl : T = b4 := HB3.out
      go_wp2
      go_ret
      exact ⟨rfl, HU4.out⟩
  · have e1 : (iv == 0) = false := by simpa using hv
    clear hv
    go_wp2_with fail
    refine (M3.out _ _ (Blk.new rfl rfl)).mono ?_
    rintro e w3 ⟨rfl, hU3⟩
    have hU3 := ((Up.refl w2).alloc _).trans hU3
    have HA3 := hid (HA2.out.up hU3)
    have HR3 := hid (HR2.out.up hU3)
    have HU3 := hid (HU2.out.trans hU3)
    clear hU3 HA2 HR2 HU2 c0 c1 c2 c3 c4 c5 r0 r1 r2 r3 r4 r5 r6 r7 r8 r9 r10
    obtain ⟨⟨c0, c1, c2⟩, c3, c4, c5⟩ := HA3.out
    have r0 := HR3.out.val (i := 0) rfl
    have r1 := HR3.out.val (i := 1) rfl
    have r2 := HR3.out.val (i := 2) rfl
    have r3 := HR3.out.val (i := 3) rfl
    have r4 := HR3.out.val (i := 4) rfl
    have r5 := HR3.out.val (i := 5) rfl
    have r6 := HR3.out.val (i := 6) rfl
    have r7 := HR3.out.val (i := 7) rfl
    have r8 := HR3.out.val (i := 8) rfl
    have r9 := HR3.out.val (i := 9) rfl
    have r10 := HR3.out.val (i := 10) rfl
    by_cases h : b3 = true
    case neg =>
      have h' : b3 = false := by simpa using h
      have hX : T = false := by rw [HB2.out, h']; rfl
      subst hX
      rw [h']
      clear h h'
      go_wp2
      go_ret
      exact ⟨rfl, HU3.out⟩
    have HB3 : Hid (T = (b4)) := hid (by rw [HB2.out, h]; rfl)
    have C3 := hid h
    rw [h]
    clear h HB2
    go_wp2_with fail
    refine (M4.out _ (HU3.out)).mono ?_
    rintro e w4 ⟨rfl, hU4⟩
    have HA4 := hid (HA3.out.up hU4)
    have HR4 := hid (HR3.out.up hU4)
    have HU4 := hid (HU3.out.trans hU4)
    clear hU4 HA3 HR3 HU3 c0 c1 c2 c3 c4 c5 r0 r1 r2 r3 r4 r5 r6 r7 r8 r9 r10
    obtain rfl : T = b4 := HB3.out
    go_wp2
    go_ret
    exact ⟨rfl, HU4.out⟩

end Go.Proofs.YtkimojconidhlaaDoor
namespace Go.Proofs.YtkimojconidhlaaDoor
open Go.RowKit Go.Sp
set_option maxHeartbeats 4000000
set_option maxRecDepth 20000

theorem ints_block {w : World} {b : Nat} {t : TypeId} {cs : Array Value} {xs : List Int} {c : Nat} (hb : Blk w b t cs) (hl : xs.length ≤ 9223372036854775807) (hcs : ∀ i, i < xs.length → cs[i]? = some (.int .i64 (xs.getD i 0))) : IntsAt w (.slice (some ⟨b, 0, none⟩) xs.length c) xs :=
  ⟨hl, _, c, rfl, fun _ => ⟨b, 0, rfl, fun i hi => by rw [Nat.zero_add]; exact hb.val (hcs i hi)⟩⟩
theorem eleven {i : Nat} (h : i < 11) : i = 0 ∨ i = 1 ∨ i = 2 ∨ i = 3 ∨ i = 4 ∨ i = 5 ∨ i = 6 ∨ i = 7 ∨ i = 8 ∨ i = 9 ∨ i = 10 := by omega
theorem rec_ints {w : World} {b : Nat} {t : TypeId} {c : Nat} {kd nr co iv ni ka kb kc st un ac : Int} (hb : Blk w b t #[.int .i64 kd, .int .i64 nr, .int .i64 co, .int .i64 iv, .int .i64 ni, .int .i64 ka, .int .i64 kb, .int .i64 kc, .int .i64 st, .int .i64 un, .int .i64 ac]) : IntsAt w (.slice (some ⟨b, 0, none⟩) 11 c) [kd, nr, co, iv, ni, ka, kb, kc, st, un, ac] := by
  have h := @ints_block w b t _ [kd, nr, co, iv, ni, ka, kb, kc, st, un, ac] c hb (by simp) (fun i hi => by
    have hi2 : i < 11 := by simpa using hi
    rcases eleven hi2 with rfl | rfl | rfl | rfl | rfl | rfl | rfl | rfl | rfl | rfl | rfl
    all_goals rfl)
  have e : [kd, nr, co, iv, ni, ka, kb, kc, st, un, ac].length = 11 := rfl
  rw [e] at h
  exact h

theorem eItem_ok (kd nr co iv ni ka kb kc st un ac : Int) (w : World) : Calls Tryd.prog 9 #[epo kd nr co iv ni ka kb kc st un ac] w (ItemOut [kd, nr, co, iv, ni, ka, kb, kc, st, un, ac] w) := by
  have M1 := hid (fun v w' (hv : IntsAt w' v [kd, nr, co, iv, ni, ka, kb, kc, st, un, ac]) => encIntsQ_ok v [kd, nr, co, iv, ni, ka, kb, kc, st, un, ac] w' hv (by simp))
  unfold epo epoA
  obtain ⟨o, ho⟩ : ∃ o, w.heap.size = o := ⟨_, rfl⟩
  have HO := hid ho
  obtain ⟨o1, ho1⟩ : ∃ o1, o + 1 = o1 := ⟨_, rfl⟩
  have HO1 := hid ho1
  obtain ⟨o2, ho2⟩ : ∃ o2, o1 + 1 = o2 := ⟨_, rfl⟩
  have HO2 := hid ho2
  clear ho ho1 ho2
  go_enter Tryd.func9, Tryd.ntmps9
  go_wp2_with fail
  refine (M1.out _ _ (rec_ints (Blk.new (by simp) rfl))).mono ?_
  rintro e w1 ⟨l, rfl, ⟨base, hQ, hb⟩, hU1⟩
  have HZ1 := hid (((Blk.new (w := w.alloc (.cells #[.int .i64 kd, .int .i64 nr, .int .i64 co, .int .i64 iv, .int .i64 ni, .int .i64 ka, .int .i64 kb, .int .i64 kc, .int .i64 st, .int .i64 un, .int .i64 ac] 46)) (g := o1) (t := 53) (cs := #[.int .i64 0, .int .i64 0, nilS, nilS]) (by have := HO.out; have := HO1.out; simp; omega) rfl).alloc _).up hU1)
  have HU1 := hid (((((Up.refl w).alloc _).alloc _).alloc _).trans hU1)
  have HQ1 := hid hQ
  have HB : Hid (o1 + 1 ≤ base ∧ w.heap.size ≤ base ∧ w.heap.size ≤ o1) := hid (by have := HO.out; have := HO1.out; simp at hb; omega)
  clear hQ hb hU1 M1
  rw [show w.heap.size + 1 = o1 by have := HO.out; have := HO1.out; omega]
  obtain ⟨la, lc, rfl⟩ := HQ1.out.shape
  rw [List.length_map] at HQ1 ⊢
  have z0 := HZ1.out.val (i := 0) rfl
  have z1 := HZ1.out.val (i := 1) rfl
  have z2 := HZ1.out.val (i := 2) rfl
  have z3 := HZ1.out.val (i := 3) rfl
  have y0 := HZ1.out.thawed 0
  have y1 := HZ1.out.thawed 1
  have y2 := HZ1.out.thawed 2
  have y3 := HZ1.out.thawed 3
  go_wp2
  refine bodyPost_ret (v := itm 3 0 nilS (.slice la [kd, nr, co, iv, ni, ka, kb, kc, st, un, ac].length lc)) (results_cell_row rfl _ _ o1 53 _ (0, 0) _ (by rfl) (blk_four HZ1.out _ _ _ _) Tryd.underlying53 rfl (by kernel_rfl)) rfl ⟨.slice la [kd, nr, co, iv, ni, ka, kb, kc, st, un, ac].length lc, rfl, ⟨base, ?_, HB.out.2.1⟩, (((HU1.out.setCell HB.out.2.2 _).setCell HB.out.2.2 _).setCell HB.out.2.2 _).setCell HB.out.2.2 _⟩
  exact (((HQ1.out.set (a := ⟨o1, 0, none⟩) HB.out.1 _).set (a := ⟨o1, 1, none⟩) HB.out.1 _).set (a := ⟨o1, 2, none⟩) HB.out.1 _).set (a := ⟨o1, 3, none⟩) HB.out.1 _

/-- What the loop's region reads. -/
def R30S (L i : Nat) (ad : Option Addr) (cp : Nat) (w0 w : World) : Prop := Blk w L 53 #[.int .i64 3, .int .i64 0, nilS, .slice ad i cp] ∧ Up w0 w
theorem R30S.up {L i : Nat} {ad : Option Addr} {cp : Nat} {w0 w w' : World} (h : R30S L i ad cp w0 w) (hU : Up w w') : R30S L i ad cp w0 w' := ⟨h.1.up hU, h.2.trans hU⟩
theorem R30S.cells {L i : Nat} {ad : Option Addr} {cp : Nat} {w0 w : World} (h : R30S L i ad cp w0 w) : w.cell? ⟨L, 3, none⟩ = some (.slice ad i cp) ∧ Up w0 w := ⟨h.1.val (i := 3) rfl, h.2⟩

theorem conv_nil (w : World) : (convert 50 9 nilS).run Tryd.prog w = .ok (.string ⟨#[]⟩) w := by first | kernel_rfl | rfl

end Go.Proofs.YtkimojconidhlaaDoor
namespace Go.Proofs.YtkimojconidhlaaDoor
open Go.RowKit Go.Sp

theorem OwnI.shape {w : World} {base : Nat} {v : Value} {xs : List Int} (h : OwnI w base v xs) : ∃ p cap, v = .slice p xs.length cap := by
  rcases h.2 with ⟨hv, hn⟩ | ⟨g, cap, cur, rfl, _⟩
  · exact ⟨none, 0, by rw [hv, hn]⟩
  · exact ⟨_, cap, rfl⟩

theorem OwnI.block {w : World} {base : Nat} {v : Value} {xs : List Int} (h : OwnI w base v xs) (k : Nat) (hk : v.ownBlock = some k) : base ≤ k := by
  rcases h.2 with ⟨hv, _⟩ | ⟨g, cap, cur, rfl, hb, _⟩
  · rw [hv] at hk; cases hk
  · simp [Value.ownBlock] at hk; omega

theorem GrpAt.below {w w' : World} {B b : Nat} {P Q G : Int} (h : GrpAt w b P Q G) (hb : b < B) (hU : Below B w w') : GrpAt w' b P Q G := by
  obtain ⟨q0, q1, q2⟩ := h
  exact ⟨by rw [hU.cell hb]; exact q0, by rw [hU.cell hb]; exact q1, by rw [hU.cell hb]; exact q2⟩

/-- What an append of one number to a list of one's own leaves. -/
theorem appended {w w1 w2 : World} {base n : Nat} {v v' : Value} {xs : List Int} {x : Int} {o : Obj} (hl : xs.length = n) (h : OwnI w1 base v xs) (hown : w2.ownsRow base 3 1 v' (n + 1) (xs.map (Value.int .i64) ++ [Value.int .i64 x])) (hgr : (w1.alloc o).grownBy w2 v.ownBlock) (hU : Up w w1) (hw : w.heap.size ≤ base) (hb : base ≤ w1.heap.size) :
    OwnI w2 base v' (xs ++ [x]) ∧ Up w w2 ∧ Below base w1 w2 := by
  refine ⟨?_, up_grown (hU.alloc _) hgr fun k hk => Nat.le_trans hw (h.block k hk), Below.grown (Below.alloc (Below.refl base w1) hb o) hgr (by simp; omega) fun k hk => h.block k hk⟩
  unfold OwnI
  rw [List.length_append, hl, List.map_append]
  exact hown

theorem OwnI.row {w : World} {base n : Nat} {v : Value} {xs : List Int} (h : OwnI w base v xs) (hl : xs.length = n) : w.ownsRow base 3 1 v n (xs.map (Value.int .i64)) := by
  subst hl
  exact h

theorem OwnI.slice {w : World} {base : Nat} {v : Value} {xs : List Int} (h : OwnI w base v xs) : ∃ p n cap, v = .slice p n cap := by
  obtain ⟨p, cap, hv⟩ := h.shape
  exact ⟨p, _, cap, hv⟩
end Go.Proofs.YtkimojconidhlaaDoor
