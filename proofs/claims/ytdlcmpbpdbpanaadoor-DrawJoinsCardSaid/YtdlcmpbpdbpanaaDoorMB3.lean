/- Package digest: a block mixed into the state. Package digest: a number in bytes; bytes.Clone. Package digest: Sum. Appends, whole-array stores, and texts as bytes: at an operation, and at a step of a region that draws its order. Over any program. -/
import Derived.Test.YtdlcmpbpdbpanaaDoorMB2
import Derived.Great.BuildSlice
import Derived.StillTailTactics
import Derived.Laws.IdiomStrings
import Derived.RegionTactic
import Derived.Deep.MidRow
import Derived.Laws.ResultCell
namespace Go.Proofs.YtdlcmpbpdbpanaaDoor
open Go.RowKit Go.Sp
set_option maxHeartbeats 2000000
set_option maxRecDepth 20000

/-- The cells of a state. -/
def stA (s : St) : Array Value := #[.int .u32 s.a, .int .u32 s.b, .int .u32 s.c, .int .u32 s.d, .int .u32 s.e, .int .u32 s.f, .int .u32 s.g, .int .u32 s.h]

theorem stA_arr (s : St) : stA s = arrK .u32 s.get 8 := by kernel_rfl

/-- The variables of package digest hold what the program's text lays. -/
def TabS (w : World) : Prop :=
  (∃ t fr, w.heap[0]? = some (.cells (stA shaStart) t fr)) ∧ ∀ i, i < 64 → w.cell? ⟨1, i, none⟩ = some (.int .u32 (shaK.getD i 0))

theorem TabS.up {w w' : World} (h : TabS w) (hU : Up w w') : TabS w' := by
  obtain ⟨⟨t, fr, h1⟩, h2⟩ := h
  exact ⟨⟨t, fr, by rw [hU.block (Array.getElem?_eq_some_iff.1 h1).1]; exact h1⟩, fun i hi => by rw [hU.cell (cell_in (h2 i hi))]; exact h2 i hi⟩

theorem index8 (s : St) : ∀ (i : Nat) (_ : i < 8) (w : World), (Instr.index 123 (.agg (stA s)) (.int .i64 i)).run Tryd.prog w = .ok (.int .u32 (s.get i)) w
  | 0, _, _ => by kernel_rfl
  | 1, _, _ => by kernel_rfl
  | 2, _, _ => by kernel_rfl
  | 3, _, _ => by kernel_rfl
  | 4, _, _ => by kernel_rfl
  | 5, _, _ => by kernel_rfl
  | 6, _, _ => by kernel_rfl
  | 7, _, _ => by kernel_rfl

theorem zero8 : #[.int .u32 0, .int .u32 0, .int .u32 0, .int .u32 0, .int .u32 0, .int .u32 0, .int .u32 0, .int .u32 0] = arrK .u32 (fun _ => 0) 8 := by kernel_rfl

/-- The state while the sums are laid into it. -/
def sMix (s v : St) (i : Nat) : Nat → Int := fun j => if j < i then plus (s.get j) (v.get j) else s.get j

theorem sMix_zero (s v : St) : stA s = arrK .u32 (sMix s v 0) 8 := by
  rw [stA_arr]
  exact arrK_congr fun j _ => by simp [sMix]
theorem sMix_at (s v : St) {i : Nat} (hi : i < 8) : (arrK .u32 (sMix s v i) 8)[i]? = some (.int .u32 (s.get i)) := by
  rw [arrK_get hi, sMix, if_neg (by omega)]
theorem sMix_step (s v : St) (i : Nat) : (arrK .u32 (sMix s v i) 8).setIfInBounds i (.int .u32 (plus (s.get i) (v.get i))) = arrK .u32 (sMix s v (i + 1)) 8 := by
  rw [arrK_set]
  refine arrK_congr fun t _ => ?_
  unfold sMix
  by_cases h : t = i
  · subst h
    simp
  · have e1 : (t < i + 1) ↔ (t < i) := by omega
    simp [h, e1]
theorem sMix_all (b : Nat → Int) (s : St) : arrK .u32 (sMix s (rnds b s 64) 8) 8 = stA (mixS b s) := by
  rw [stA_arr]
  refine arrK_congr fun t ht => ?_
  rw [sMix, if_pos ht, mixS_get]

theorem u32_not : (if IntKind.u32.signed = true then (-1 : Int) else IntKind.u32.max) = 4294967295 := by decide

theorem same_turn' {P : Program} {f : FuncId} {args : Array Value} {w : World} {v : Value} (h : Calls P f args w fun e w' => e = .returned v ∧ w = w') : Calls P f args w fun e w' => e = .returned v ∧ w' = w :=
  h.mono fun _ _ ⟨a, b⟩ => ⟨a, b.symm⟩

theorem mix_any (s : St) (v : Value) (xs : List Int) (w : World) (hT : TabS w) (hv : SeqAt .u8 w v xs) (hl : xs.length = 64) (hB : Byt fun j => xs.getD j 0) :
    Calls Tryd.prog 73 #[.agg (stA s), v] w fun e w' => e = .returned (.agg (stA (mixS (fun j => xs.getD j 0) s))) ∧ Up w w' := by
  have HT := hid hT
  have HSch := hid (fun w' (hU : Up w w') => schedule_any v xs w' (hv.up hU) hl hB)
  obtain ⟨a0, cap, rfl, _, _⟩ := hv.shape
  obtain ⟨b, hb⟩ : ∃ b : Nat → Int, (fun j => xs.getD j 0) = b := ⟨_, rfl⟩
  rw [hb] at HSch
  rw [hb]
  clear hT hv hl hB hb
  obtain ⟨R, hR⟩ : ∃ R, stA (mixS b s) = R := ⟨_, rfl⟩
  rw [hR]
  have HR := hid hR
  clear hR
  have HA := hid (stA_arr s)
  have HE := hid (rfl : s = ⟨s.a, s.b, s.c, s.d, s.e, s.f, s.g, s.h⟩)
  unfold stA
  go_enter Tryd.func73, Tryd.ntmps73
  go_wp2_with fail
  refine (HSch.out _ (((Up.refl w).alloc _).alloc _)).mono ?_
  rintro e w1 ⟨rfl, hU1⟩
  obtain ⟨o, ho⟩ : ∃ o, w.heap.size = o := ⟨_, rfl⟩
  have HOo := hid ho
  rw [ho]
  have hS1 : Blk w1 o 123 (stA s) := ((Blk.new ho rfl).alloc _).up hU1
  have hZ1 : Blk w1 (o + 1) 123 (arrK .u32 (fun _ => 0) 8) := (Blk.new (by simp [ho]) zero8).up hU1
  have hU2 := ((((Up.refl w).alloc _).alloc _).trans hU1).alloc (.cells (arrK .u32 (wAt b) 64) 178)
  clear hU1 ho
  go_wp2_with (first | (refine wpList_store_rowTo rfl 178 _ _ rfl rfl _ _ rfl rfl 178 _ (heap_alloc_new _ _) (by rw [arrK_size]; kernel_rfl) (by rw [arrK_size]; rfl) arrK_one ?_; rw [World.setRow_alloc_new]))
  obtain ⟨g, hg⟩ : ∃ g, w1.heap.size = g := ⟨_, rfl⟩
  rw [hg]
  obtain ⟨w2, hw2⟩ : ∃ w2, w1.alloc (.cells (arrK .u32 (wAt b) 64) 178) = w2 := ⟨_, rfl⟩
  have hW2 : Blk w2 g 178 (arrK .u32 (wAt b) 64) := by rw [← hw2]; exact Blk.new hg rfl
  have hS2 : Blk w2 o 123 (stA s) := by rw [← hw2]; exact hS1.alloc _
  have hZ2 : Blk w2 (o + 1) 123 (arrK .u32 (fun _ => 0) 8) := by rw [← hw2]; exact hZ1.alloc _
  have l1 := hS1.lt
  have l2 := hZ1.lt
  rw [hg] at l1 l2
  rw [hw2] at hU2
  rw [hw2]
  clear hw2 hS1 hZ1 hg
  have c0 := hS2.val (i := 0) rfl
  have c1 := hS2.val (i := 1) rfl
  have c2 := hS2.val (i := 2) rfl
  have c3 := hS2.val (i := 3) rfl
  have c4 := hS2.val (i := 4) rfl
  have c5 := hS2.val (i := 5) rfl
  have c6 := hS2.val (i := 6) rfl
  have c7 := hS2.val (i := 7) rfl
  go_quiet (fail)
  have hud := (Up.refl w2).drewN nq
  have HW := hid (hW2.up hud)
  have HS := hid (hS2.up hud)
  have HZ := hid (hZ2.up hud)
  have HU := hid (hU2.trans hud)
  clear hud c0 c1 c2 c3 c4 c5 c6 c7 hW2 hS2 hZ2 hU2
  generalize w2.drewN nq = w3 at *
  go_wp2_with fail
  go_loopw [6, 7, 8, 9, 10, 11, 12, 13, 37] (fun v0 v1 v2 v3 v4 v5 v6 v7 vt wr => ∃ (t : Nat) (A B C D E F G H : Int), t ≤ 64 ∧ vt = .int .i64 t ∧ v0 = .int .u32 A ∧ v1 = .int .u32 B ∧ v2 = .int .u32 C ∧ v3 = .int .u32 D ∧ v4 = .int .u32 E ∧ v5 = .int .u32 F ∧ v6 = .int .u32 G ∧ v7 = .int .u32 H ∧
      Hid (rnds b s t = ⟨A, B, C, D, E, F, G, H⟩) ∧ Hid (Blk wr g 178 (arrK .u32 (wAt b) 64)) ∧ Hid (Blk wr o 123 (stA s)) ∧ Hid (Blk wr (o + 1) 123 (arrK .u32 (fun _ => 0) 8)) ∧ Hid (Up w wr)) (fun _ _ _ _ _ _ _ _ vt _ => 64 - (intOf vt).toNat)
  case atStart => exact ⟨0, _, _, _, _, _, _, _, _, by omega, rfl, rfl, rfl, rfl, rfl, rfl, rfl, rfl, rfl, hid rfl, HW, HS, HZ, HU⟩
  case round =>
    clear HW HS HZ HU
    obtain ⟨t, A, B, C, D, E, F, G, H, ht, rfl, rfl, rfl, rfl, rfl, rfl, rfl, rfl, rfl, HX, HW, HS, HZ, HU⟩ := hrel
    by_cases hlt : t < 64
    · have q1 := HW.out.val (arrK_get hlt)
      have q2 := (HT.out.up HU.out).2 t hlt
      have HN : Hid (rnds b s (t + 1) = rnd ⟨A, B, C, D, E, F, G, H⟩ (shaK.getD t 0) (wAt b t)) := hid (by rw [rnds, HX.out])
      have z2 : (t : Int) < 64 := by omega
      generalize wAt b t = W at *
      generalize shaK.getD t 0 = K at *
      go_wp2_with fail
      go_quiet ((go_at_call 126; first | ((with_reducible (show Calls _ _ #[_, .int .i64 6] _ _)); exact Calls.quiet_of_same (same_turn' (right_6 _ _))) | ((with_reducible (show Calls _ _ #[_, .int .i64 11] _ _)); exact Calls.quiet_of_same (same_turn' (right_11 _ _))) | ((with_reducible (show Calls _ _ #[_, .int .i64 25] _ _)); exact Calls.quiet_of_same (same_turn' (right_25 _ _)))))
      have hud := (Up.refl wr).drewN nq
      have HW2 := hid (HW.out.up hud)
      have HS2 := hid (HS.out.up hud)
      have HZ2 := hid (HZ.out.up hud)
      have HU2 := hid (HU.out.trans hud)
      clear hud q1 q2 HW HS HZ HU
      generalize wr.drewN nq = w4 at *
      go_wp2_with (go_at_call 126; first | ((with_reducible (show Calls _ _ #[_, .int .i64 2] _ _)); refine (right_2 _ _).mono ?_; rintro e w' ⟨rfl, rfl⟩) | ((with_reducible (show Calls _ _ #[_, .int .i64 13] _ _)); refine (right_13 _ _).mono ?_; rintro e w' ⟨rfl, rfl⟩) | ((with_reducible (show Calls _ _ #[_, .int .i64 22] _ _)); refine (right_22 _ _).mono ?_; rintro e w' ⟨rfl, rfl⟩))
      go_roundw
      case rel => exact ⟨t + 1, _, _, _, _, _, _, _, _, by omega, by go_num, rfl, rfl, rfl, rfl, rfl, rfl, rfl, rfl, hid (by rw [HN.out]; simp only [rnd, rndX, rndY, bs0, bs1, chs, maj, plus, u32_not, IntKind.wrap_u32, St.mk.injEq]; refine ⟨?_, trivial, trivial, trivial, ?_, trivial, trivial, trivial⟩ <;> omega), HW2, HS2, HZ2, HU2⟩
      case measure => simp [intOf]; omega
    · obtain ⟨V, hV⟩ : ∃ V : St, (⟨A, B, C, D, E, F, G, H⟩ : St) = V := ⟨_, rfl⟩
      have HV : Hid (rnds b s 64 = V) := hid (by rw [← hV, ← HX.out, show t = 64 by omega])
      have HVV := hid hV
      have HS3 := hid HS.out
      rw [sMix_zero s V] at HS3
      clear HX HW HS hV
      go_wp2_with fail
      go_loopw [109] (fun vi wr => ∃ i : Nat, i ≤ 8 ∧ vi = .int .i64 i ∧ Hid (Blk wr o 123 (arrK .u32 (sMix s V i) 8)) ∧ Hid (Blk wr (o + 1) 123 (arrK .u32 (fun _ => 0) 8)) ∧ Hid (Up w wr)) (fun vi _ => 8 - (intOf vi).toNat)
      case atStart => exact ⟨0, by omega, rfl, HS3, HZ, HU⟩
      case round =>
        clear HS3 HZ HU
        obtain ⟨i, hi, rfl, HS, HZ, HU⟩ := hrel
        by_cases hil : i < 8
        · have q1 := HS.out.val (sMix_at s V hil)
          have q2 := HS.out.thawed i
          have q3 : ∀ w', (Instr.index 123 (.agg #[.int .u32 A, .int .u32 B, .int .u32 C, .int .u32 D, .int .u32 E, .int .u32 F, .int .u32 G, .int .u32 H]) (.int .i64 i)).run Tryd.prog w' = .ok (.int .u32 (V.get i)) w' := fun w' => by rw [← HVV.out]; exact index8 ⟨A, B, C, D, E, F, G, H⟩ i hil w'
          have HN := hid (sMix_step s V i)
          generalize s.get i = x at *
          generalize V.get i = y at *
          go_wp2_with fail
          go_roundw
          case rel => exact ⟨i + 1, by omega, by go_num, hid (by rw [← HN.out, show plus x y = (x + y) % 4294967296 from IntKind.wrap_u32 _]; exact HS.out.wrote _ _), hid (HZ.out.apart (by simp) _), hid (HU.out.setCell (by have := HOo.out; show w.heap.size ≤ o; omega) _)⟩
          case measure => simp [intOf]; omega
        · have HR2 : Hid (arrK .u32 (sMix s V i) 8 = R) := hid (by rw [show i = 8 by omega, ← HV.out, sMix_all]; exact HR.out)
          have HS4 := hid HS.out
          rw [HR2.out] at HS4
          have HSz : Hid (R.size = 8 ∧ R.all (·.oneCell') = true) := hid ⟨by rw [← HR2.out, arrK_size], by rw [← HR2.out]; exact arrK_one⟩
          clear HS HR2
          go_wp2_with (first | (refine wpList_load_row rfl 123 _ rfl _ rfl 123 _ (0, 0) _ HS4.out Tryd.underlying123 rfl (by rw [HSz.out.1]; kernel_rfl) ?_) | (refine wpList_store_rowTo rfl 123 _ _ rfl rfl _ _ rfl rfl 123 _ HZ.out (by rw [HSz.out.1]; kernel_rfl) (by rw [arrK_size, HSz.out.1]) HSz.out.2 ?_))
          refine bodyPost_ret (v := .agg R) (results_cell_row rfl _ _ (o + 1) 123 _ (0, 0) _ (by rfl) (HZ.out.row _) Tryd.underlying123 rfl (by rw [HSz.out.1]; kernel_rfl)) rfl ⟨rfl, HU.out.setRow (by have := HOo.out; omega) _⟩
end Go.Proofs.YtdlcmpbpdbpanaaDoor
namespace Go.Proofs.YtdlcmpbpdbpanaaDoor
open Go.RowKit Go.Sp
set_option maxHeartbeats 2000000
set_option maxRecDepth 20000

theorem infoU8 : (Tryd.prog.info? 5).map (fun i => (i.zero, i.size, i.bytes)) = some (some (.int .u8 0), 1, 1) := by kernel_rfl

theorem count_any (n : Int) (w : World) :
    Calls Tryd.prog 72 #[.int .u64 n] w fun e w' => ∃ v, e = .returned v ∧ OwnS 5 .u8 w' w.heap.size v (beL 8 n) ∧ Up w w' := by
  have hmk : ∀ W, (Instr.makeSlice 31 (.int .i64 8) (.int .i64 8)).run Tryd.prog W = .ok (.slice (some ⟨W.heap.size, 0, none⟩) 8 8) (W.alloc (.cells #[.int .u8 0, .int .u8 0, .int .u8 0, .int .u8 0, .int .u8 0, .int .u8 0, .int .u8 0, .int .u8 0] 5)) := fun _ => by kernel_rfl
  obtain ⟨f, hf⟩ : ∃ f : Nat → Int, (fun i => n / 2 ^ (8 * (8 - 1 - i)) % 256) = f := ⟨_, rfl⟩
  have HL : Hid (beL 8 n = (List.range 8).map f) := hid (by rw [← hf]; rfl)
  have HF := hid hf
  clear hf
  go_enter Tryd.func72, Tryd.ntmps72
  go_wp2_with fail
  clear hmk
  obtain ⟨o, ho⟩ : ∃ o, w.heap.size = o := ⟨_, rfl⟩
  rw [ho]
  go_loopw [8] (fun vi wr => ∃ i : Nat, i ≤ 8 ∧ vi = .int .i64 i ∧ Hid (Blk wr o 5 (arrK .u8 (pfill f i) 8)) ∧ Hid (Up w wr)) (fun vi _ => 8 - (intOf vi).toNat)
  case atStart => exact ⟨0, by omega, rfl, hid (Blk.new ho ((by kernel_rfl : _ = arrK .u8 (fun _ => 0) 8).trans (pfill_zero _ _ _))), hid ((Up.refl w).alloc _)⟩
  case round =>
    have HOo := hid ho
    clear ho
    obtain ⟨i, hi, rfl, HB, HU⟩ := hrel
    by_cases hlt : i < 8
    · have q1 := HB.out.val (pfill_at hlt)
      have q2 := HB.out.thawed i
      have HP := hid (pfill_put .u8 f i 8)
      have hfi : f i = n / 2 ^ (56 - 8 * i) % 256 := by rw [← HF.out, show 56 - 8 * i = 8 * (8 - 1 - i) by omega]
      have HFI := hid hfi
      clear hfi
      go_wp2_with fail
      go_roundw
      case rel => exact ⟨i + 1, by omega, by go_num, hid (by rw [← HP.out, HFI.out]; exact HB.out.wrote _ _), hid (HU.out.setCell (by have := HOo.out; show w.heap.size ≤ o; omega) _)⟩
      case measure => simp [intOf]; omega
    · have HL2 : Hid ((List.range 8).map f = beL 8 n) := hid HL.out.symm
      have HB2 := hid HB.out
      rw [show i = 8 by omega, pfill_all] at HB2
      go_wp2
      go_ret
      exact ⟨_, rfl, by rw [HL.out]; exact HB2.out.own (by have := HOo.out; omega) (by omega), HU.out⟩

theorem bClone_any (v : Value) (xs : List Int) (w : World) (hv : SeqAt .u8 w v xs) (hl : xs.length ≤ 1099511627776) :
    Calls Tryd.prog 71 #[v] w fun e w' => ∃ v', e = .returned v' ∧ OwnS 5 .u8 w' w.heap.size v' xs ∧ Up w w' := by
  have HV := hid hv
  obtain ⟨a, cap, rfl, h1, h2, h3, _⟩ := hv
  cases a with
  | none =>
    have hc := h3 rfl
    subst hc
    have hx : xs = [] := List.length_eq_zero_iff.1 (by omega)
    subst hx
    have hnil := fun w' => Lib.run_eql_slice_nil (P := Tryd.prog) w' 31 5 none 0 0 0 0 Tryd.underlying31
    go_enter Tryd.func71, Tryd.ntmps71
    go_wp2
    go_ret
    exact ⟨_, rfl, own_none, Up.refl w⟩
  | some a =>
    clear h3
    have hnil := fun w' => Lib.run_eql_slice_nil (P := Tryd.prog) w' 31 5 (some a) xs.length cap 0 0 Tryd.underlying31
    go_enter Tryd.func71, Tryd.ntmps71
    go_wp2_with (at_builtin; refine wp_app infoU8 Tryd.underlying31 (by omega) rfl _ _ rfl w.heap.size rfl rfl (own_empty (Blk.new rfl rfl) (Nat.le_refl _)) (HV.out.up ((Up.refl w).alloc _)) (by simp; omega) (by simp) ?_; intro v' w' ho hg)
    go_ret
    exact ⟨v', rfl, ho, Up.own ((Up.refl w).alloc _) (own_empty (e := 5) (k := .u8) (Blk.new rfl rfl) (Nat.le_refl _)) hg (Nat.le_refl _)⟩
end Go.Proofs.YtdlcmpbpdbpanaaDoor
namespace Go.Proofs.YtdlcmpbpdbpanaaDoor
open Go.RowKit Go.Sp
set_option maxHeartbeats 2000000
set_option maxRecDepth 20000

/-- A digest as a value. -/
def hashV (h : Nat → Int) : Value := .agg (arrK .u8 h 32)

theorem zero32 : #[.int .u8 0, .int .u8 0, .int .u8 0, .int .u8 0, .int .u8 0, .int .u8 0, .int .u8 0, .int .u8 0, .int .u8 0, .int .u8 0, .int .u8 0, .int .u8 0, .int .u8 0, .int .u8 0, .int .u8 0, .int .u8 0,
    .int .u8 0, .int .u8 0, .int .u8 0, .int .u8 0, .int .u8 0, .int .u8 0, .int .u8 0, .int .u8 0, .int .u8 0, .int .u8 0, .int .u8 0, .int .u8 0, .int .u8 0, .int .u8 0, .int .u8 0, .int .u8 0] = arrK .u8 (fun _ => 0) 32 := by kernel_rfl

theorem stA_size (s : St) : (stA s).size = 8 := rfl
theorem stA_one {s : St} : (stA s).all (·.oneCell') = true := by rw [stA_arr]; exact arrK_one

/-- How many zeros pad so many bytes. -/
def padZ (n : Nat) : Nat := (119 - n % 64) % 64

def padTo (xs : List Int) (z : Nat) : List Int := xs ++ [128] ++ List.replicate z 0

theorem padTo_length (xs : List Int) (z : Nat) : (padTo xs z).length = xs.length + 1 + z := by simp [padTo]; omega
theorem padTo_step (xs : List Int) (z : Nat) : padTo xs z ++ [0] = padTo xs (z + 1) := by
  unfold padTo
  rw [List.append_assoc, List.replicate_succ', List.append_assoc]
theorem padL_eq (xs : List Int) : padL xs = padTo xs (padZ xs.length) ++ beL 8 (8 * xs.length) := rfl

theorem byt_getD {p : List Int} (h : ∀ x ∈ p, 0 ≤ x ∧ x ≤ 255) (i : Nat) : 0 ≤ p.getD i 0 ∧ p.getD i 0 ≤ 255 := by
  by_cases hi : i < p.length
  · rw [List.getD_eq_getElem?_getD, List.getElem?_eq_getElem hi]
    exact h _ (List.getElem_mem hi)
  · rw [List.getD_eq_getElem?_getD, List.getElem?_eq_none (by omega)]
    simp

theorem beL_byt (n : Nat) (x : Int) : ∀ y ∈ beL n x, 0 ≤ y ∧ y ≤ 255 := by
  intro y hy
  simp only [beL, List.mem_map] at hy
  obtain ⟨i, _, rfl⟩ := hy
  have := Int.emod_lt_of_pos (x / 2 ^ (8 * (n - 1 - i))) (show (0 : Int) < 256 by decide)
  exact ⟨Int.emod_nonneg _ (by decide), by omega⟩

theorem padL_byt {xs : List Int} (h : ∀ x ∈ xs, 0 ≤ x ∧ x ≤ 255) : ∀ x ∈ padL xs, 0 ≤ x ∧ x ≤ 255 := by
  intro x hx
  simp only [padL, List.mem_append, List.mem_singleton, List.mem_replicate] at hx
  rcases hx with ((hx | rfl) | ⟨_, rfl⟩) | hx
  · exact h x hx
  · omega
  · omega
  · exact beL_byt _ _ x hx

theorem blk_byt {p : List Int} (h : ∀ x ∈ p, 0 ≤ x ∧ x ≤ 255) (k : Nat) : Byt (blkAt p k) := fun _ => byt_getD h _

theorem drop_blk (p : List Int) (k : Nat) (h : 64 * k + 64 ≤ p.length) : (((p.drop (64 * k)).drop 0).take (64 - 0)).length = 64 ∧ (fun j => (((p.drop (64 * k)).drop 0).take (64 - 0)).getD j 0) = fun j => if j < 64 then blkAt p k j else 0 := by
  constructor
  · simp; omega
  · funext j
    by_cases hj : j < 64
    · rw [if_pos hj]
      simp [blkAt, List.getD_eq_getElem?_getD, hj]
    · rw [if_neg hj, List.getD_eq_getElem?_getD, List.getElem?_eq_none (by simp; omega)]
      rfl

/-- Only the first 64 bytes of a block count. -/
theorem wAt_cut {b c : Nat → Int} (h : ∀ j, j < 64 → b j = c j) : ∀ t, wAt b t = wAt c t := by
  intro t
  induction t using Nat.strongRecOn with
  | ind t ih =>
    by_cases ht : t < 16
    · rw [wAt_low ht, wAt_low ht, wordB, wordB, h _ (by omega), h _ (by omega), h _ (by omega), h _ (by omega)]
    · rw [wAt_high (b := b) (t := t) (by omega), wAt_high (b := c) (t := t) (by omega), ih _ (by omega), ih _ (by omega), ih _ (by omega), ih _ (by omega)]
theorem rnds_cut {b c : Nat → Int} (h : ∀ j, j < 64 → b j = c j) (s : St) : ∀ t, rnds b s t = rnds c s t
  | 0 => rfl
  | t + 1 => by rw [rnds, rnds, rnds_cut h s t, wAt_cut h]
theorem mixS_cut {b c : Nat → Int} (h : ∀ j, j < 64 → b j = c j) (s : St) : mixS b s = mixS c s := by
  unfold mixS
  rw [rnds_cut h s]

theorem Sum_any (v : Value) (xs : List Int) (w : World) (hT : TabS w) (hv : SeqAt .u8 w v xs) (hl : xs.length ≤ 1099511627000) (hB : ∀ x ∈ xs, 0 ≤ x ∧ x ≤ 255) :
    Calls Tryd.prog 25 #[v] w fun e w' => e = .returned (hashV (shaB xs)) ∧ Up w w' := by
  have HT := hid hT
  have HClone := hid (fun w' (hU : Up w w') => bClone_any v xs w' (hv.up hU) (by omega))
  have HBy := hid (padL_byt hB)
  obtain ⟨a0, cap, rfl, hcap1, hcap2⟩ := hv.shape
  obtain ⟨n, hn⟩ : ∃ n, xs.length = n := ⟨_, rfl⟩
  obtain ⟨Z, hZ⟩ : ∃ Z, padZ n = Z := ⟨_, rfl⟩
  obtain ⟨P, hP⟩ : ∃ P, padL xs = P := ⟨_, rfl⟩
  obtain ⟨N, hN⟩ : ∃ N, P.length / 64 = N := ⟨_, rfl⟩
  have HP : Hid (P = padTo xs Z ++ beL 8 (8 * n)) := hid (by rw [← hP, padL_eq, hn, hZ])
  have hPl : P.length = 64 * N := by
    have := padL_length xs
    rw [hP] at this
    omega
  have HPl := hid hPl
  have hNZ : 64 * N = n + 1 + Z + 8 := by
    rw [← hPl, HP.out, List.length_append, padTo_length, beL_length, hn]
  have HNZ := hid hNZ
  have HSha : Hid (shaB xs = outB (blocksS P N)) := hid (by rw [← hN, ← hP]; rfl)
  have hZ2 : ((n + 1 + Z) % 64 = 56 ∧ Z ≤ 63) ∧ ∀ z, z < Z → (n + 1 + z) % 64 ≠ 56 := by
    rw [← hZ]
    unfold padZ
    refine ⟨⟨by omega, by omega⟩, fun z hz => by omega⟩
  have HZ := hid hZ2
  have HLt := hid (fun z => padTo_length xs z)
  rw [hn] at HLt
  have HStep := hid (padTo_step xs)
  have HZero : Hid (xs ++ [128] = padTo xs 0) := hid (by simp [padTo])
  rw [hP] at HBy
  have HXN := hid hn
  rw [hn] at hl hcap1 HClone
  rw [hn]
  clear hT hv hB hn hZ hP hN hPl hNZ hZ2
  go_enter Tryd.func25, Tryd.ntmps25
  go_wp2_with fail
  refine (HClone.out _ ((Up.refl w).alloc _)).mono ?_
  rintro e w1 ⟨v1, rfl, hO1, hU1⟩
  have hO1 := hO1.mono (base' := w.heap.size + 1) (by simp)
  have hZ1 : Blk w1 w.heap.size 23 (arrK .u8 (fun _ => 0) 32) := (Blk.new rfl zero32).up hU1
  have hU1 := ((Up.refl w).alloc _).trans hU1
  obtain ⟨o, ho⟩ : ∃ o, w.heap.size = o := ⟨_, rfl⟩
  have l1 := hZ1.lt
  rw [ho] at hO1 hZ1 l1
  rw [ho]
  have HOo := hid ho
  go_wp2_with (at_builtin; refine wp_app infoU8 Tryd.underlying31 (by omega) rfl _ _ rfl (o + 1) rfl rfl (hO1.up ((Up.refl w1).alloc _)) (seq_new _ _ _) (by have := HXN.out; simp; omega) (by simp; omega) ?_; intro v2 w2 hO2 hg2)
  have hU2 := (hU1.alloc _).own (hO1.up ((Up.refl w1).alloc _)) hg2 (by omega)
  have hZ2 := (hZ1.alloc _).below (below_own (hO1.up ((Up.refl w1).alloc _)) hg2 (by simp; omega)) (by omega)
  rw [HZero.out] at hO2
  obtain ⟨p2, k2, rfl, _, _⟩ := hO2.shape
  have HLt0 : (padTo xs 0).length = n + 1 := HLt.out 0
  rw [HLt0] at hO2
  rw [HLt0]
  clear HLt0
  have HO2 := hid hO2
  have HZ2 := hid hZ2
  have HU2 := hid hU2
  clear hO1 hO2 hZ1 hZ2 hU1 hU2 hg2 l1 ho
  go_loopw [3] (fun vp wr => ∃ (z : Nat) (p : Option Addr) (c : Nat), z ≤ Z ∧ vp = .slice p (n + 1 + z) c ∧ Hid (OwnS 5 .u8 wr (o + 1) (.slice p (n + 1 + z) c) (padTo xs z)) ∧ Hid (Blk wr o 23 (arrK .u8 (fun _ => 0) 32)) ∧ Hid (Up w wr)) (fun vp _ => n + 1 + Z - lenOf vp)
  case atStart => exact ⟨0, _, _, by omega, rfl, HO2, HZ2, HU2⟩
  case round =>
    clear HO2 HZ2 HU2
    obtain ⟨z, p, c, hz, rfl, HO, HB, HU⟩ := hrel
    have hsz : o + 1 ≤ wr.heap.size := by have := HB.out.lt; omega
    by_cases hlt : z < Z
    · have HL := hid (HLt.out z)
      have HS := hid (HStep.out z)
      have HS1 := hid (HLt.out (z + 1))
      have hne := HZ.out.2 z hlt
      have hm : n + 1 + z ≤ n + 70 := by have := HZ.out.1.2; omega
      obtain ⟨m, hme⟩ : ∃ m, n + 1 + z = m := ⟨_, rfl⟩
      have HM := hid hme
      rw [hme] at HO HL hne hm
      rw [hme]
      clear hme
      have d1 : ((m : Int) % 64 != 56) = true := by simp; omega
      go_wp2_with (at_builtin; refine wp_app infoU8 Tryd.underlying31 (by omega) rfl _ _ rfl (o + 1) rfl rfl (HO.out.up ((Up.refl wr).alloc _)) (seq_new _ _ _) (by have := HL.out; simp; omega) (by simp; omega) ?_; intro v' w' hO' hg')
      have hU' := (HU.out.alloc _).own (HO.out.up ((Up.refl wr).alloc _)) hg' (by have := HOo.out; omega)
      have hB' := (HB.out.alloc _).below (below_own (HO.out.up ((Up.refl wr).alloc _)) hg' (by simp; omega)) (by omega)
      rw [HS.out] at hO'
      obtain ⟨p', k', rfl, _, _⟩ := hO'.shape
      rw [HS1.out] at hO'
      rw [HS1.out]
      have HO' := hid hO'
      have HB' := hid hB'
      have HU' := hid hU'
      clear hO' hB' hU' hg'
      go_wp2_with fail
      go_roundw
      case rel => exact ⟨z + 1, _, _, by omega, rfl, HO', HB', HU'⟩
      case measure =>
        have := HM.out
        simp
        omega
    · have hzZ : z = Z := by omega
      have HzZ := hid hzZ
      have HL := hid (HLt.out z)
      have d1 : (((n + 1 + z : Nat) : Int) % 64 != 56) = false := by
        have := HZ.out.1.1
        rw [← hzZ] at this
        simp
        omega
      have hm : n + 1 + z ≤ n + 70 := by have := HZ.out.1.2; omega
      clear hzZ
      obtain ⟨m, hme⟩ : ∃ m, n + 1 + z = m := ⟨_, rfl⟩
      have HM := hid hme
      rw [hme] at HO HL hm d1
      rw [hme]
      clear hme hlt hz
      go_wp2_with fail
      refine (count_any _ _).mono ?_
      rintro e w4 ⟨v4, rfl, hO4, hU4⟩
      have hsz4 := hU4.size
      have HPP : Hid (padTo xs z ++ beL 8 (8 * (n : Int)) = P) := hid (by rw [HzZ.out, HP.out])
      go_wp2_with (first
        | (at_builtin; refine wp_app infoU8 Tryd.underlying31 (by omega) rfl _ _ rfl (o + 1) rfl rfl (HO.out.up hU4) hO4.seq (by have := HL.out; simp [beL_length]; omega) (by omega) ?_; intro v5 w5 hO5 hg5; have hU5 := (HU.out.trans hU4).own (HO.out.up hU4) hg5 (by have := HOo.out; omega); have hB5 := (HB.out.up hU4).below (below_own (HO.out.up hU4) hg5 (by omega)) (by omega); rw [HPP.out] at hO5; obtain ⟨⟨tg, fg, hst⟩, -⟩ := HT.out.up hU5)
        | (refine wpList_load_row rfl 123 _ rfl 0 rfl _ (stA shaStart) _ _ (by assumption) Tryd.underlying123 rfl (by kernel_rfl) ?_)
        | (refine wpList_store_rowTo rfl 123 _ _ rfl rfl _ _ rfl rfl 123 _ (heap_alloc_new _ _) (by rw [stA_size]; kernel_rfl) (by rw [stA_size]; rfl) stA_one ?_; rw [World.setRow_alloc_new]))
      have hS5 := hO5.seq
      have hb5 : ∀ b off c', v5 = .slice (some ⟨b, off, none⟩) P.length c' → b < w5.heap.size := fun b off c' hv => by
        rw [hv] at hS5
        exact hS5.inside (by intro h; have ha := HPl.out; have hb := HNZ.out; rw [h] at ha; simp at ha; omega)
      obtain ⟨p5, k5, rfl, _, _⟩ := hO5.shape
      rw [HPl.out] at hS5 hb5
      rw [HPl.out]
      clear HO HB HU hO4 hU4 hg5 hsz hO5
      obtain ⟨q, hq⟩ : ∃ q, w5.heap.size = q := ⟨_, rfl⟩
      rw [hq]
      obtain ⟨w6, hw6⟩ : ∃ w6, w5.alloc (.cells (stA shaStart) 123) = w6 := ⟨_, rfl⟩
      have HQ6 : Hid (Blk w6 q 123 (stA (blocksS P 0))) := hid (by rw [← hw6]; exact Blk.new hq rfl)
      have HS6 : Hid (SeqAt .u8 w6 (.slice p5 (64 * N) k5) (P.drop (64 * 0))) := hid (by rw [← hw6]; exact hS5.up ((Up.refl w5).alloc _))
      have HB6 : Hid (Blk w6 o 23 (arrK .u8 (fun _ => 0) 32)) := hid (by rw [← hw6]; exact hB5.alloc _)
      have HU6 : Hid (Up w w6) := hid (by rw [← hw6]; exact hU5.alloc _)
      have HP6 : Hid (∀ b off, p5 = some ⟨b, off, none⟩ → b < q) := hid (fun b off h => by rw [← hq]; exact hb5 b off k5 (by rw [h]))
      have hoq : o < q := by have := hB5.lt; omega
      rw [hw6]
      clear hw6 hS5 hb5 hU5 hB5 hst hq d1
      go_loopw [3] (fun vp wr => ∃ (k : Nat) (p : Option Addr) (c : Nat), k ≤ N ∧ vp = .slice p (64 * N - 64 * k) c ∧ Hid (SeqAt .u8 wr (.slice p (64 * N - 64 * k) c) (P.drop (64 * k))) ∧ Hid (∀ b off, p = some ⟨b, off, none⟩ → b < q) ∧ Hid (Blk wr q 123 (stA (blocksS P k))) ∧ Hid (Blk wr o 23 (arrK .u8 (fun _ => 0) 32)) ∧ Hid (Up w wr)) (fun vp _ => lenOf vp)
      case atStart => exact ⟨0, _, _, by omega, rfl, HS6, HP6, HQ6, HB6, HU6⟩
      case round =>
        clear HS6 HP6 HQ6 HB6 HU6
        obtain ⟨k, p, c, hkN, rfl, HS, HPb, HQ, HB, HU⟩ := hrel
        by_cases hk : k < N
        · obtain ⟨b, off, cap', hsh, _⟩ := HS.out.cell (i := 0) (by rw [List.length_drop, HPl.out]; omega)
          simp only [Value.slice.injEq] at hsh
          obtain ⟨rfl, -, -⟩ := hsh
          obtain ⟨_, _, hsh2, hc1, hc2⟩ := HS.out.shape
          simp only [Value.slice.injEq] at hsh2
          obtain ⟨-, -, rfl⟩ := hsh2
          rw [List.length_drop, HPl.out] at hc1
          obtain ⟨S, hS⟩ : ∃ S, blocksS P k = S := ⟨_, rfl⟩
          have HSS : Hid (blocksS P (k + 1) = mixS (blkAt P k) S) := hid (by rw [blocksS, hS])
          rw [hS] at HQ
          have HMix := hid (fun w' (hU : Up wr w') => by
            have h64 : ((P.drop (64 * k)).take 64).length = 64 := by rw [List.length_take, List.length_drop, HPl.out]; omega
            have hm := mix_any S _ _ w' (HT.out.up (HU.out.trans hU)) ((HS.out.up hU).front (m := 64) (by omega)) h64 (fun j => byt_getD (fun x hx => HBy.out x (List.mem_of_mem_drop (List.mem_of_mem_take hx))) j)
            rw [mixS_cut (c := blkAt P k) (fun j hj => by simp [blkAt, List.getD_eq_getElem?_getD, hj])] at hm
            exact hm)
          have hm64 : 64 ≤ 64 * N - 64 * k := by omega
          have hm63 : 64 * N - 64 * k ≤ 1099511628000 := by have := HNZ.out; have := HZ.out.1.2; omega
          obtain ⟨m, hme⟩ : ∃ m, 64 * N - 64 * k = m := ⟨_, rfl⟩
          have HM := hid hme
          rw [hme] at HS hc1 hm64 hm63
          rw [hme]
          clear hme hS
          have c0 : wr.cell? ⟨q, 0, none⟩ = some (.int .u32 S.a) := HQ.out.val rfl
          have c1 : wr.cell? ⟨q, 1, none⟩ = some (.int .u32 S.b) := HQ.out.val rfl
          have c2 : wr.cell? ⟨q, 2, none⟩ = some (.int .u32 S.c) := HQ.out.val rfl
          have c3 : wr.cell? ⟨q, 3, none⟩ = some (.int .u32 S.d) := HQ.out.val rfl
          have c4 : wr.cell? ⟨q, 4, none⟩ = some (.int .u32 S.e) := HQ.out.val rfl
          have c5 : wr.cell? ⟨q, 5, none⟩ = some (.int .u32 S.f) := HQ.out.val rfl
          have c6 : wr.cell? ⟨q, 6, none⟩ = some (.int .u32 S.g) := HQ.out.val rfl
          have c7 : wr.cell? ⟨q, 7, none⟩ = some (.int .u32 S.h) := HQ.out.val rfl
          have z1 : (64 : Int) ≤ (c : Int) := by omega
          have z2 : 64 ≤ c := by omega
          go_wp2_with fail
          go_still_tail 3, (by kernel_rfl)
          change wpList _ _ _ _ _ wr.drew
          have hud := (Up.refl wr).drew
          have HQ2 := hid (HQ.out.up hud)
          generalize wr.drew = w7 at *
          go_wp2_with fail
          refine (HMix.out _ hud).mono ?_
          rintro e w8 ⟨rfl, hU8⟩
          have hQ8 := HQ2.out.up hU8
          have hS8 := HS.out.up (hud.trans hU8)
          have hB8 := HB.out.up (hud.trans hU8)
          have hU9 := HU.out.trans (hud.trans hU8)
          clear c0 c1 c2 c3 c4 c5 c6 c7 HQ HQ2 HS HB HU HMix hud
          by_cases hc : c = 64
          all_goals
            go_wp2_with (refine wpList_store_rowTo rfl 123 _ _ rfl rfl _ _ rfl rfl 123 _ hQ8 (by rw [stA_size]; kernel_rfl) (by rw [stA_size, stA_size]) stA_one ?_)
          · have hm : m = 64 := by omega
            go_roundw
            case rel => exact ⟨k + 1, some ⟨b, off, none⟩, 0, by omega, by rw [show 64 * N - 64 * (k + 1) = m - 64 by have := HM.out; omega], hid (by
              rw [show 64 * N - 64 * (k + 1) = 0 by have := HM.out; omega, List.drop_eq_nil_of_le (by have := HM.out; rw [HPl.out]; omega)]
              exact seq_zero _ _ (by omega)), HPb, hid (by rw [HSS.out]; exact hQ8.row _), hid (hB8.rowApart (by omega) _), hid (hU9.setRow (by have := HOo.out; omega) _)⟩
            case measure => simp; omega
          · go_roundw
            case rel => exact ⟨k + 1, some ⟨b, off + 64, none⟩, c - 64, by omega, by rw [show 64 * N - 64 * (k + 1) = m - 64 by have := HM.out; omega], hid (by
              rw [show 64 * N - 64 * (k + 1) = m - 64 by have := HM.out; omega, show 64 * (k + 1) = 64 * k + 64 by omega, ← List.drop_drop]
              exact (hS8.back hm64).below (below_setRow (Below.refl q w8) (Nat.le_refl q) _) (fun b' off' n' c' h => by
                simp only [Value.slice.injEq, Option.some.injEq, Addr.mk.injEq] at h
                obtain ⟨⟨rfl, -, -⟩, -, -⟩ := h
                exact HPb.out _ _ rfl)), hid (fun b' off' h => by
                simp only [Option.some.injEq, Addr.mk.injEq] at h
                obtain ⟨rfl, -, -⟩ := h
                exact HPb.out _ _ rfl), hid (by rw [HSS.out]; exact hQ8.row _), hid (hB8.rowApart (by omega) _), hid (hU9.setRow (by have := HOo.out; omega) _)⟩
            case measure => simp; omega
        · have hkN2 : k = N := by omega
          have HSha2 : Hid (shaB xs = outB (blocksS P k)) := hid (by rw [hkN2]; exact HSha.out)
          obtain ⟨S, hS⟩ : ∃ S, blocksS P k = S := ⟨_, rfl⟩
          rw [hS] at HQ HSha2
          have hm0 : 64 * N - 64 * k = 0 := by omega
          rw [hm0]
          clear hS hkN2 hm0 HS HPb hk
          go_wp2_with (refine wpList_load_row rfl 123 _ rfl q rfl 123 (stA S) (0, 0) _ ((Blk.alloc HQ.out _)) Tryd.underlying123 rfl (by rw [stA_size]; kernel_rfl) ?_)
          obtain ⟨f, hf⟩ : ∃ f : Nat → Int, outB S = f := ⟨_, rfl⟩
          have HF := hid hf
          rw [hf] at HSha2
          obtain ⟨g, hg⟩ : ∃ g, wr.heap.size = g := ⟨_, rfl⟩
          have hog : o < g := by have := HB.out.lt; omega
          rw [hg]
          clear hf
          go_loopw [38] (fun vi wr2 => ∃ i : Nat, i ≤ 8 ∧ vi = .int .i64 i ∧ Hid (Blk wr2 g 23 (arrK .u8 (pfill f (4 * i)) 32)) ∧ Hid (Blk wr2 o 23 (arrK .u8 (fun _ => 0) 32)) ∧ Hid (Up w wr2)) (fun vi _ => 8 - (intOf vi).toNat)
          case atStart => exact ⟨0, by omega, rfl, hid (Blk.new hg (zero32.trans (pfill_zero _ _ _))), hid (HB.out.alloc _), hid (HU.out.alloc _)⟩
          case round =>
            clear HB HU HQ
            obtain ⟨i, hi, rfl, HG, HB, HU⟩ := hrel
            by_cases hil : i < 8
            · have q3 : ∀ w', (Instr.index 123 (.agg (stA S)) (.int .i64 i)).run Tryd.prog w' = .ok (.int .u32 (S.get i)) w' := fun w' => index8 S i hil w'
              have HFS : Hid (∀ k, k < 4 → f (4 * i + k) = S.get i / 2 ^ (24 - 8 * k) % 256) := hid (fun k hk => by
                rw [← HF.out, outB, show (4 * i + k) / 4 = i by omega, show (4 * i + k) % 4 = k by omega])
              generalize S.get i = x at *
              go_wp2_with fail
              clear q3
              go_loopw [42] (fun vk wr3 => ∃ k : Nat, k ≤ 4 ∧ vk = .int .i64 k ∧ Hid (Blk wr3 g 23 (arrK .u8 (pfill f (4 * i + k)) 32)) ∧ Hid (Blk wr3 o 23 (arrK .u8 (fun _ => 0) 32)) ∧ Hid (Up w wr3)) (fun vk _ => 4 - (intOf vk).toNat)
              case atStart => exact ⟨0, by omega, rfl, HG, HB, HU⟩
              case round =>
                clear HG HB HU
                obtain ⟨k, hk, rfl, HG, HB, HU⟩ := hrel
                by_cases hkl : k < 4
                · have q1 := HG.out.val (pfill_at (k := .u8) (f := f) (i := 4 * i + k) (n := 32) (by omega))
                  have q2 := HG.out.thawed (4 * i + k)
                  have HP2 := hid (pfill_put .u8 f (4 * i + k) 32)
                  have HFK := hid (HFS.out k hkl)
                  go_wp2_with fail
                  go_roundw
                  case rel => exact ⟨k + 1, by omega, by go_num, hid (by rw [← Nat.add_assoc, ← HP2.out, HFK.out]; exact HG.out.wrote _ _), hid (HB.out.apart (by show o ≠ g; omega) _), hid (HU.out.setCell (by have := HOo.out; show w.heap.size ≤ g; omega) _)⟩
                  case measure => simp [intOf]; omega
                · have HG2 := hid HG.out
                  rw [show 4 * i + k = 4 * (i + 1) by omega] at HG2
                  go_wp2_with fail
                  go_roundw
                  case rel => exact ⟨i + 1, by omega, by go_num, HG2, HB, HU⟩
                  case measure => simp [intOf]; omega
            · have HG2 := hid HG.out
              rw [show 4 * i = 32 by omega, pfill_all] at HG2
              clear HG
              have HSV : Hid (hashV (shaB xs) = .agg (arrK .u8 f 32)) := hid (by rw [hashV, HSha2.out])
              go_wp2_with (first | (refine wpList_load_row rfl 23 _ rfl g rfl 23 (arrK .u8 f 32) (0, 0) _ HG2.out Tryd.underlying23 rfl (by rw [arrK_size]; kernel_rfl) ?_) | (refine wpList_store_rowTo rfl 23 _ _ rfl rfl _ _ rfl rfl 23 _ HB.out (by rw [arrK_size]; kernel_rfl) (by rw [arrK_size, arrK_size]) arrK_one ?_))
              refine bodyPost_ret (v := .agg (arrK .u8 f 32)) (results_cell_row rfl _ _ o 23 _ (0, 0) _ (by rfl) (HB.out.row _) Tryd.underlying23 rfl (by rw [arrK_size]; kernel_rfl)) rfl ⟨by rw [HSV.out], HU.out.setRow (by have := HOo.out; omega) _⟩
end Go.Proofs.YtdlcmpbpdbpanaaDoor
namespace Go.Sp
open Go.RowKit

/-- append(v, u...) onto the call's own: at the operation. -/
theorem op_app {P : Program} {e t : TypeId} {k : IntKind} {bytes : Nat} (hI : (P.info? e).map (fun i => (i.zero, i.size, i.bytes)) = some (some (.int k 0), 1, bytes)) (ht : P.underlying t = some (.slice e)) (hby : bytes ≤ 8)
    {o : Oper} {a : Act} {w : World} {K : Act → World → Prop} {Q : Exit → Act → World → Prop} (s x : Operand)
    (ho : o.op = .call { callee := .builtin .append, args := #[s, x], argTypes := #[t, t] })
    (base : Nat) {v u : Value} {xs ys : List Int} (hs : a.eval s = v) (hx : a.eval x = u) (hown : OwnS e k w base v xs) (hsrc : SeqAt k w u ys) (hroom : xs.length + ys.length ≤ 17592186044416) (hbase : base ≤ w.heap.size)
    (h : ∀ v' w', OwnS e k w' base v' (xs ++ ys) → w.grownBy w' v.ownBlock → K (a.put o.dst v') w') : o.wp P a w K Q := by
  obtain ⟨i0, hi, hz0, hz1, hz2⟩ := info_parts hI
  obtain ⟨ad, cap, rfl, _, _, hcap, hc⟩ := hsrc
  have hown' : w.ownsRow base e 1 v xs.length (xs.map (Value.int k)) := hown
  by_cases hne : ys = []
  · subst hne
    cases ad with
    | none =>
      have hcap := hcap rfl
      subst hcap
      have hrun := run_append_owned_none (P := P) (w := w) base t o.type e i0 1 ht hi v xs.length _ hown'
      unfold Oper.wp execOp
      simp only [ho, resolve, invoke, builtin, Sem.run_bind, Sem.run_pure, Result.andThen_ok, List.map_toArray, List.map_cons, List.map_nil, hs, hx, List.length_nil, hrun]
      exact h v w (by rw [List.append_nil]; exact hown) (World.grownBy.refl _ _)
    | some ad =>
      refine wp_append_own w s x t ho base e i0 (.int k 0) 1 bytes ht hi hz0 hz1 hz2 rfl (by decide) v xs.length _ hs hown' ad 0 cap [] hx rfl (fun j u hj => by simp at hj) (fun u hu => by cases hu) (by unfold maxLen; omega) (by
        have := Nat.mul_le_mul (show xs.length + 0 ≤ 17592186044416 by simp at hroom; omega) hby
        omega) hbase fun v' w' h1 h2 _ => h v' w' (by
          unfold OwnS
          rw [List.append_nil]
          simpa using h1) h2
  · obtain ⟨b, off, rfl, hcell⟩ := hc hne
    refine wp_append_own w s x t ho base e i0 (.int k 0) 1 bytes ht hi hz0 hz1 hz2 rfl (by decide) v xs.length _ hs hown' ⟨b, off, none⟩ ys.length cap (ys.map (Value.int k)) hx (by simp) (fun j u hj => by
        simp only [List.getElem?_map, Option.map_eq_some_iff] at hj
        obtain ⟨y, hy, rfl⟩ := hj
        have hj2 : j < ys.length := (List.getElem?_eq_some_iff.1 hy).1
        have := hcell j hj2
        rw [Addr.add_lit, this]
        simp [hy]) (ints_oneCell _ _) (by unfold maxLen; omega) (by
        have := Nat.mul_le_mul hroom hby
        omega) hbase fun v' w' h1 h2 _ => h v' w' (by
          unfold OwnS
          rw [List.length_append, List.map_append]
          exact h1) h2

/-- The same at a step of a region that draws its order. -/
theorem step_app {P : Program} {e t : TypeId} {k : IntKind} {bytes : Nat} (hI : (P.info? e).map (fun i => (i.zero, i.size, i.bytes)) = some (some (.int k 0), 1, bytes)) (ht : P.underlying t = some (.slice e)) (hby : bytes ≤ 8)
    {ops : Array Oper} {o : Oper} {a : Act} {w : World} {K : Act → World → Prop} {Q : Exit → Act → World → Prop} {E : Prop} (hgd : o.guard = none) (s x : Operand)
    (ho : o.op = .call { callee := .builtin .append, args := #[s, x], argTypes := #[t, t] })
    (base : Nat) {v u : Value} {xs ys : List Int} (hs : a.eval s = v) (hx : a.eval x = u) (hown : OwnS e k w base v xs) (hsrc : SeqAt k w u ys) (hroom : xs.length + ys.length ≤ 17592186044416) (hbase : base ≤ w.heap.size)
    (h : ∀ v' w', OwnS e k w' base v' (xs ++ ys) → w.grownBy w' v.ownBlock → K (a.put o.dst v') w') : if Region.wanted o (yielded ops a.tmps) = true then Oper.wp P o a w K Q else E := by
  have hw : Region.wanted o (yielded ops a.tmps) = true := by simp [Region.wanted, hgd]
  rw [if_pos hw]
  exact op_app hI ht hby s x ho base hs hx hown hsrc hroom hbase h

theorem step_store_row {P : Program} {ops : Array Oper} {o : Oper} {a : Act} {w : World} {K : Act → World → Prop} {Q : Exit → Act → World → Prop} {E : Prop} (hgd : o.guard = none) (ty : TypeId) (x y : Operand) (ho : o.op = .store ty x y) (hd : o.dst = none)
    (g : Nat) (cells : Array Value) (hx : a.eval x = .pointer (some ⟨g, 0, none⟩)) (hy : a.eval y = .agg cells)
    (t : TypeId) (old : Array Value) (hg : w.heap[g]? = some (.cells old t (0, 0))) (hi : (P.info? ty).map (·.size) = some cells.size)
    (hold : old.size = cells.size) (h1 : cells.all (·.oneCell') = true)
    (h : K a (w.setRow g cells)) : if Region.wanted o (yielded ops a.tmps) = true then Oper.wp P o a w K Q else E := by
  have hw : Region.wanted o (yielded ops a.tmps) = true := by simp [Region.wanted, hgd]
  rw [if_pos hw]
  exact wp_store_row ty x y ho g cells hx hy t old hg hi hold h1 (by rw [hd]; exact h)

/-- A whole row stored cell by cell. -/
theorem setCells_row {g : Nat} {t : TypeId} : ∀ (cs pre post : List Value) (w : World), w.heap[g]? = some (.cells (pre ++ post).toArray t (0, 0)) → post.length = cs.length →
    (w.setCells g pre.length cs).heap[g]? = some (.cells (pre ++ cs).toArray t (0, 0))
  | [], pre, post, w, h, hl => by
    have : post = [] := List.length_eq_zero_iff.1 hl
    subst this
    exact h
  | v :: cs, pre, [], w, _, hl => by simp at hl
  | v :: cs, pre, p :: post, w, h, hl => by
    have h1 := heap_setCell_same w g pre.length _ t v h
    have e : ((pre ++ p :: post).toArray.setIfInBounds pre.length v) = ((pre ++ [v]) ++ post).toArray := by
      simp
    rw [e] at h1
    have := setCells_row cs (pre ++ [v]) post _ h1 (by simpa using hl)
    rw [World.setCells]
    simpa using this

theorem Blk.mid {w : World} {g : Nat} {t : TypeId} {old : Array Value} (h : Blk w g t old) (cs : List Value) (hl : old.size = cs.length) : Blk (w.setCells g 0 cs) g t cs.toArray := by
  have h' : w.heap[g]? = some (.cells ([] ++ old.toList).toArray t (0, 0)) := by
    have h0 : w.heap[g]? = some (.cells old t (0, 0)) := h
    simpa using h0
  have := setCells_row (g := g) (t := t) cs [] old.toList w h' (by simpa using hl)
  show (w.setCells g 0 cs).heap[g]? = some (.cells cs.toArray t (0, 0))
  simpa using this

theorem Up.setCells {w0 : World} {g : Nat} (hg : w0.heap.size ≤ g) : ∀ (cs : List Value) (i : Nat) {w : World}, Up w0 w → Up w0 (w.setCells g i cs)
  | [], _, _, h => h
  | v :: cs, i, w, h => by
    rw [World.setCells]
    exact Up.setCells hg cs (i + 1) (h.setCell hg v)

theorem Blk.there {w : World} {g : Nat} {t : TypeId} {cs : Array Value} {n : Nat} (h : Blk w g t cs) (hn : n ≤ cs.size) : w.there g 0 n := fun j hj => by
  rw [h.read, h.thawed]
  simp
  omega

/-- Whatever world. -/
def AnyW (_ : World) : Prop := True
theorem anyW (w : World) : AnyW w := trivial

/-- Results: a whole row, and slots. -/
theorem results_row_tmp {P : Program} {fn : Func} {p u : Tmp} {ty : TypeId} (h : fn.results = #[.cell p ty, .tmp u]) (tmps : Array Value) (w : World) (g : Nat) (t : TypeId) (cs : Array Value) (fr : Nat × Nat) (d : TypeDesc)
    (hp : tmps.getD p undef = .pointer (some ⟨g, 0, none⟩)) (hg : w.heap[g]? = some (.cells cs t fr))
    (hu : P.underlying ty = some d) (hd : (match d with | .struct _ | .array _ _ => true | _ => false) = true) (hi : (P.info? ty).map (·.size) = some cs.size) :
    (results fn tmps).run P w = .ok (.tuple #[.agg cs, tmps.getD u undef]) w := by
  rw [results_cell_tmp h, hp]
  simp [asAddr, Sem.run_pure, Result.andThen, run_loadVar_row w g t ty cs fr d hg hu hd hi]

theorem results_row_tmp2 {P : Program} {fn : Func} {p u v : Tmp} {ty : TypeId} (h : fn.results = #[.cell p ty, .tmp u, .tmp v]) (tmps : Array Value) (w : World) (g : Nat) (t : TypeId) (cs : Array Value) (fr : Nat × Nat) (d : TypeDesc)
    (hp : tmps.getD p undef = .pointer (some ⟨g, 0, none⟩)) (hg : w.heap[g]? = some (.cells cs t fr))
    (hu : P.underlying ty = some d) (hd : (match d with | .struct _ | .array _ _ => true | _ => false) = true) (hi : (P.info? ty).map (·.size) = some cs.size) :
    (results fn tmps).run P w = .ok (.tuple #[.agg cs, tmps.getD u undef, tmps.getD v undef]) w := by
  have hp' : tmps[p]?.getD undef = .pointer (some ⟨g, 0, none⟩) := by simpa using hp
  simp only [results, h]
  simp [Result.andThen, hp', asAddr, run_loadVar_row w g t ty cs fr d hg hu hd hi]

/-- A text as bytes. -/
def txt (s : ByteArray) : List Int := s.data.toList.map fun c => (c.toNat : Int)
theorem txt_length (s : ByteArray) : (txt s).length = s.size := by rw [txt, List.length_map]; rfl
theorem txt_byt (s : ByteArray) : ∀ x ∈ txt s, 0 ≤ x ∧ x ≤ 255 := by
  intro x hx
  simp only [txt, List.mem_map] at hx
  obtain ⟨c, _, rfl⟩ := hx
  have : c.toNat < 256 := c.toNat_lt
  omega

theorem seq_text (w : World) (s : ByteArray) (c : Nat) (e : TypeId) (fr : Nat × Nat) (hc : s.size ≤ c) (h63 : c ≤ 9223372036854775807) :
    SeqAt .u8 (w.alloc (.cells (bytesRow s c) e fr)) (.slice (some ⟨w.heap.size, 0, none⟩) s.size c) (txt s) :=
  seq_block (heap_alloc_new w _) (txt s) 0 s.size c (txt_length s) hc h63 fun i hi => by
    have hi2 : i < s.data.size := hi
    rw [Nat.zero_add, bytesRow, Array.getElem?_append_left (by simpa using hi2)]
    simp [txt, Array.getElem?_eq_getElem hi2]

theorem seq_text_at {w : World} {g : Nat} (s : ByteArray) (c : Nat) (e : TypeId) (fr : Nat × Nat) (hg : w.heap.size = g) (hc : s.size ≤ c) (h63 : c ≤ 9223372036854775807) :
    SeqAt .u8 (w.alloc (.cells (bytesRow s c) e fr)).drew (.slice (some ⟨g, 0, none⟩) s.size c) (txt s) := by
  subst hg
  exact (seq_text w s c e fr hc h63).up (Up.refl _).drew
theorem cap_ge {w : World} {n : Nat} {e : TypeId} : n ≤ grownCap w n 0 e := grownCap_ge _ _ _ _
theorem cap_le {w : World} {n : Nat} {e : TypeId} (h : n ≤ 9223372036854775807) : grownCap w n 0 e ≤ 9223372036854775807 := by
  have := grownCap_le_maxLen w n 0 e (by unfold maxLen; omega)
  unfold maxLen at this
  omega
end Go.Sp
