/- The reference of layer 23: Blind. Rows of bytes; slices.ContainsFunc over them; which lists of messages are long. Package signature: All. From a walk that returns true and leaves all that was there as it was, to a law's post; arguments opened. -/
import Derived.Test.YtdlcmpbpdbpanaaGreatDoorMB29
import Derived.Test.YtdlcmpbpdbpanaaGreatDoorMB25
import Derived.Test.YtdlcmpbpdbpanaaGreatDoorMB23
import Derived.Test.YtdlcmpbpdbpanaaGreatDoorCards
import Derived.Test.YtdlcmpbpdbpanaaGreatDoorTie
import Derived.Test.YtdlcmpbpdbpanaaGreatDoorMB14
import Derived.ProofKit
import Derived.OpenShut
import Derived.Carry
import Derived.Deep.DeepHandedRow
import Derived.Lib.LaidTab
import Derived.Lib.SmallJoins
import Derived.Stop.LaidErr
namespace Go.Proofs.YtdlcmpbpdbpanaaGreatDoor
open Go.RowKit Go.Sp
set_option maxHeartbeats 4000000
set_option maxRecDepth 20000

theorem r23Blind_ok (P Q G y r al be : Int) (v : Value) (m : List Int) (w : World) (hg : gvB P Q G = true) (hy : elB P Q y = true) (hr : elB P Q r = true) (ha : exB Q al = true) (hb : exB Q be = true) (hl : m.length ≤ 16384) (hv : SeqAt .u8 w v m) (hm : ∀ x ∈ m, 0 ≤ x ∧ x ≤ 255) :
    Calls Tryz.prog 50 #[grp P Q G, .int .i64 y, .int .i64 r, v, .int .i64 al, .int .i64 be] w fun e w' => e = .returned (.tuple #[buser al be (bcm P Q G y r al be) (sigC P Q G (bcm P Q G y r al be) y m), .int .i64 ((sigC P Q G (bcm P Q G y r al be) y m + be) % Q)]) ∧ Up w w' := by
  obtain ⟨q0, q1⟩ := gv_q hg
  have M1 := hid (fun w' => r23Commit_ok P Q G y r al be w' hg hy hr ha hb)
  have M2 := hid (fun w' (hU : Up w w') => r22Challenge_ok P Q G (bcm P Q G y r al be) y v m w' q0 q1 (hv.up hU) hl hm)
  have hr2 := sigC_range P G (bcm P Q G y r al be) y m (Q := Q) (by omega)
  obtain ⟨b0, b1⟩ := exB_iff.1 hb
  generalize bcm P Q G y r al be = K at *
  generalize sigC P Q G K y m = D at *
  have hw : IntKind.i64.wrap (D + be) = D + be := by rw [IntKind.wrap_i64]; omega
  have ht : (D + be).tmod Q = (D + be) % Q := Int.tmod_eq_emod_of_nonneg (by omega)
  have hq0 : (Q == 0) = false := by simp; omega
  have hqn : Q ≠ 0 := by omega
  generalize (D + be) % Q = X at *
  obtain ⟨va, vc, rfl, _, _⟩ := hv.shape
  obtain ⟨n, hn⟩ : ∃ n, m.length = n := ⟨_, rfl⟩
  rw [hn] at M2 ⊢
  obtain ⟨o, ho⟩ : ∃ o, w.heap.size = o := ⟨_, rfl⟩
  have HO := hid ho
  obtain ⟨o1, ho1⟩ : ∃ o1, o + 1 = o1 := ⟨_, rfl⟩
  have HO1 := hid ho1
  have hlw : w.heap.size ≤ o1 := by omega
  clear hg hy hr ha hb hl hv hm hn ho ho1 q0 q1 hr2 b0 b1
  go_enter Tryz.func50, Tryz.ntmps50
  go_wp2_with fail
  refine (M1.out _).mono ?_
  rintro e w1 ⟨rfl, hU1⟩
  have HA1 := hid (((Blk.new (w := w) (g := o) (t := 23) (cs := #[.int .i64 P, .int .i64 Q, .int .i64 G]) HO.out rfl).up ((Up.refl _).alloc _)).up hU1)
  have HZ1 := hid (((Blk.new (g := o1) (t := 71) (cs := #[.int .i64 0, .int .i64 0, .int .i64 0, .int .i64 0]) (by have := HO.out; have := HO1.out; simp; omega) rfl)).up hU1)
  have HU1 := hid ((((Up.refl w).alloc _).alloc _).trans hU1)
  clear hU1
  rw [HO.out, HO1.out]
  have c0 := HA1.out.val (i := 0) rfl
  have c1 := HA1.out.val (i := 1) rfl
  have c2 := HA1.out.val (i := 2) rfl
  have z0 := HZ1.out.val (i := 0) rfl
  have z1 := HZ1.out.val (i := 1) rfl
  have z2 := HZ1.out.val (i := 2) rfl
  have z3 := HZ1.out.val (i := 3) rfl
  have zt0 := HZ1.out.thawed 0
  have zt1 := HZ1.out.thawed 1
  have zt2 := HZ1.out.thawed 2
  have zt3 := HZ1.out.thawed 3
  obtain ⟨o3, ho3⟩ : ∃ o3, w1.heap.size = o3 := ⟨_, rfl⟩
  have l13 : o1 < o3 := by have := HZ1.out.lt; omega
  have l03 : o < o3 := by have := HA1.out.lt; omega
  go_wp2_with fail
  refine (M2.out _ (HU1.out.alloc _)).mono ?_
  rintro e w2 ⟨rfl, hU2⟩
  have HXX2 := hid (((Blk.new (g := o3) (t := 71) (cs := #[.int .i64 al, .int .i64 be, .int .i64 K, .int .i64 0]) ho3 rfl)).up hU2)
  have hU2 := ((Up.refl w1).alloc _).trans hU2
  have HA2 := hid (HA1.out.up hU2)
  have HZ2 := hid (HZ1.out.up hU2)
  have HU2 := hid (HU1.out.trans hU2)
  clear hU2 HA1 HZ1 HU1 c0 c1 c2 z0 z1 z2 z3 zt0 zt1 zt2 zt3
  try rw [ho3]
  clear ho3
  have c0 := HA2.out.val (i := 0) rfl
  have c1 := HA2.out.val (i := 1) rfl
  have c2 := HA2.out.val (i := 2) rfl
  have z0 := HZ2.out.val (i := 0) rfl
  have z1 := HZ2.out.val (i := 1) rfl
  have z2 := HZ2.out.val (i := 2) rfl
  have z3 := HZ2.out.val (i := 3) rfl
  have zt0 := HZ2.out.thawed 0
  have zt1 := HZ2.out.thawed 1
  have zt2 := HZ2.out.thawed 2
  have zt3 := HZ2.out.thawed 3
  have x0 := HXX2.out.val (i := 0) rfl
  have x1 := HXX2.out.val (i := 1) rfl
  have x2 := HXX2.out.val (i := 2) rfl
  have x3 := HXX2.out.val (i := 3) rfl
  have xt0 := HXX2.out.thawed 0
  have xt1 := HXX2.out.thawed 1
  have xt2 := HXX2.out.thawed 2
  have xt3 := HXX2.out.thawed 3
  go_wp2_with fail
  clear c0 c1 c2 z0 z1 z2 z3 zt0 zt1 zt2 zt3 x0 x1 x2 x3 xt0 xt1 xt2 xt3
  have HA3 := hid (HA2.out.apart (a := ⟨o3, 3, none⟩) (by show o ≠ o3; omega) (.int .i64 D))
  have HZ3 := hid (HZ2.out.apart (a := ⟨o3, 3, none⟩) (by show o1 ≠ o3; omega) (.int .i64 D))
  have HV3 : Hid (Blk (w2.setCell ⟨o3, 3, none⟩ (.int .i64 D)) o3 71 #[.int .i64 al, .int .i64 be, .int .i64 K, .int .i64 D]) := hid (HXX2.out.wrote 3 (.int .i64 D))
  have HU3 := hid (HU2.out.setCell (a := ⟨o3, 3, none⟩) (by show w.heap.size ≤ o3; omega) (.int .i64 D))
  generalize w2.setCell ⟨o3, 3, none⟩ (.int .i64 D) = w3 at *
  clear HA2 HZ2 HXX2 HU2
  refine region_E (fun w' => Blk w' o 23 #[.int .i64 P, .int .i64 Q, .int .i64 G] ∧ Blk w' o3 71 #[.int .i64 al, .int .i64 be, .int .i64 K, .int .i64 D]) 9 (by kernel_rfl) ⟨HA3.out.up (Up.refl _).drew, HV3.out.up (Up.refl _).drew⟩ fun hS => ?_
  have hZ0 := HZ3.out.up (Up.refl w3).drew
  have hU0 := HU3.out.drew
  generalize w3.drew = v0 at *
  refine anyE_take (i := 0) (v := ?_) 31 rfl rfl (by kernel_rfl) (by kernel_rfl) (by decide) (fun _ _ _ h => h) (by kernel_rfl) (by kernel_rfl) (.inl ⟨by rfl, fun u hu => ?_⟩) hS ?_
  rotate_left
  · (obtain ⟨ua, ub⟩ := hu; have q0 := ua.val (i := 0) rfl; have q1 := ua.val (i := 1) rfl; have q2 := ua.val (i := 2) rfl; have u0 := ub.val (i := 0) rfl; have u1 := ub.val (i := 1) rfl; have u2 := ub.val (i := 2) rfl; have u3 := ub.val (i := 3) rfl; go_simp; first | done | with_reducible rfl)
  try simp only [Act.put, List.setIfInBounds_toArray, List.set_cons_zero, List.set_cons_succ]
  refine anyE_take (i := 1) (v := ?_) 32 rfl rfl (by kernel_rfl) (by kernel_rfl) (by decide) (fun _ _ _ h => h) (by kernel_rfl) (by kernel_rfl) (.inl ⟨by rfl, fun u hu => ?_⟩) hS ?_
  rotate_left
  · (obtain ⟨ua, ub⟩ := hu; have q0 := ua.val (i := 0) rfl; have q1 := ua.val (i := 1) rfl; have q2 := ua.val (i := 2) rfl; have u0 := ub.val (i := 0) rfl; have u1 := ub.val (i := 1) rfl; have u2 := ub.val (i := 2) rfl; have u3 := ub.val (i := 3) rfl; go_simp; first | done | with_reducible rfl)
  try simp only [Act.put, List.setIfInBounds_toArray, List.set_cons_zero, List.set_cons_succ]
  refine anyE_take (i := 2) (v := ?_) 33 rfl rfl (by kernel_rfl) (by kernel_rfl) (by decide) (fun _ _ _ h => h) (by kernel_rfl) (by kernel_rfl) (.inl ⟨by rfl, fun u hu => ?_⟩) hS ?_
  rotate_left
  · (obtain ⟨ua, ub⟩ := hu; have q0 := ua.val (i := 0) rfl; have q1 := ua.val (i := 1) rfl; have q2 := ua.val (i := 2) rfl; have u0 := ub.val (i := 0) rfl; have u1 := ub.val (i := 1) rfl; have u2 := ub.val (i := 2) rfl; have u3 := ub.val (i := 3) rfl; go_simp; first | done | with_reducible rfl)
  try simp only [Act.put, List.setIfInBounds_toArray, List.set_cons_zero, List.set_cons_succ]
  refine anyE_take (i := 3) (v := ?_) 34 rfl rfl (by kernel_rfl) (by kernel_rfl) (by decide) (fun _ _ _ h => h) (by kernel_rfl) (by kernel_rfl) (.inl ⟨by rfl, fun u hu => ?_⟩) hS ?_
  rotate_left
  · (obtain ⟨ua, ub⟩ := hu; have q0 := ua.val (i := 0) rfl; have q1 := ua.val (i := 1) rfl; have q2 := ua.val (i := 2) rfl; have u0 := ub.val (i := 0) rfl; have u1 := ub.val (i := 1) rfl; have u2 := ub.val (i := 2) rfl; have u3 := ub.val (i := 3) rfl; go_simp; first | done | with_reducible rfl)
  try simp only [Act.put, List.setIfInBounds_toArray, List.set_cons_zero, List.set_cons_succ]
  refine anyE_take (i := 4) (v := ?_) 35 rfl rfl (by kernel_rfl) (by kernel_rfl) (by decide) (fun _ _ _ h => h) (by kernel_rfl) (by kernel_rfl) (.inl ⟨by rfl, fun u hu => ?_⟩) hS ?_
  rotate_left
  · (obtain ⟨ua, ub⟩ := hu; have q0 := ua.val (i := 0) rfl; have q1 := ua.val (i := 1) rfl; have q2 := ua.val (i := 2) rfl; have u0 := ub.val (i := 0) rfl; have u1 := ub.val (i := 1) rfl; have u2 := ub.val (i := 2) rfl; have u3 := ub.val (i := 3) rfl; go_simp; first | done | with_reducible rfl)
  try simp only [Act.put, List.setIfInBounds_toArray, List.set_cons_zero, List.set_cons_succ]
  refine anyE_take (i := 5) (v := ?_) 36 rfl rfl (by kernel_rfl) (by kernel_rfl) (by decide) (fun _ _ _ h => h) (by kernel_rfl) (by kernel_rfl) (.inl ⟨by rfl, fun u hu => ?_⟩) hS ?_
  rotate_left
  · (obtain ⟨ua, ub⟩ := hu; have q0 := ua.val (i := 0) rfl; have q1 := ua.val (i := 1) rfl; have q2 := ua.val (i := 2) rfl; have u0 := ub.val (i := 0) rfl; have u1 := ub.val (i := 1) rfl; have u2 := ub.val (i := 2) rfl; have u3 := ub.val (i := 3) rfl; go_simp; first | done | with_reducible rfl)
  try simp only [Act.put, List.setIfInBounds_toArray, List.set_cons_zero, List.set_cons_succ]
  refine anyE_take (i := 6) (v := ?_) 37 rfl rfl (by kernel_rfl) (by kernel_rfl) (by decide) (fun _ _ _ h => h) (by kernel_rfl) (by kernel_rfl) (.inl ⟨by rfl, fun u hu => ?_⟩) hS ?_
  rotate_left
  · (obtain ⟨ua, ub⟩ := hu; have q0 := ua.val (i := 0) rfl; have q1 := ua.val (i := 1) rfl; have q2 := ua.val (i := 2) rfl; have u0 := ub.val (i := 0) rfl; have u1 := ub.val (i := 1) rfl; have u2 := ub.val (i := 2) rfl; have u3 := ub.val (i := 3) rfl; go_simp; first | done | with_reducible rfl)
  try simp only [Act.put, List.setIfInBounds_toArray, List.set_cons_zero, List.set_cons_succ]
  refine anyE_take (i := 7) (v := ?_) 38 rfl rfl (by kernel_rfl) (by kernel_rfl) (by decide) (fun _ _ _ h => h) (by kernel_rfl) (by kernel_rfl) (.inl ⟨by rfl, fun u hu => ?_⟩) hS ?_
  rotate_left
  · (obtain ⟨ua, ub⟩ := hu; have q0 := ua.val (i := 0) rfl; have q1 := ua.val (i := 1) rfl; have q2 := ua.val (i := 2) rfl; have u0 := ub.val (i := 0) rfl; have u1 := ub.val (i := 1) rfl; have u2 := ub.val (i := 2) rfl; have u3 := ub.val (i := 3) rfl; go_simp; first | done | with_reducible rfl)
  try simp only [Act.put, List.setIfInBounds_toArray, List.set_cons_zero, List.set_cons_succ]
  refine anyE_one (i := 8) rfl (by kernel_rfl) rfl (fun K' hK => ?_)
  refine op_store_row 71 _ _ rfl rfl o1 #[.int .i64 al, .int .i64 be, .int .i64 K, .int .i64 D] rfl rfl 71 #[.int .i64 0, .int .i64 0, .int .i64 0, .int .i64 0] hZ0 (by kernel_rfl) rfl (by first | kernel_rfl | simp [Value.oneCell']) ?_
  have hS2 : Blk (v0.setRow o1 #[.int .i64 al, .int .i64 be, .int .i64 K, .int .i64 D]) o 23 #[.int .i64 P, .int .i64 Q, .int .i64 G] ∧ Blk (v0.setRow o1 #[.int .i64 al, .int .i64 be, .int .i64 K, .int .i64 D]) o3 71 #[.int .i64 al, .int .i64 be, .int .i64 K, .int .i64 D] := ⟨Blk.rowApart hS.1 (by have := HO1.out; omega) _, Blk.rowApart hS.2 (by omega) _⟩
  refine hK.out _ _ (.inr hS2) ?_
  clear hK
  refine anyE_one (i := 9) rfl (by kernel_rfl) rfl (fun K' hK => ?_)
  go_simp
  refine hK.out _ _ (.inl rfl) (anyE_done (by kernel_rfl) ?_ _)
  clear hK
  go_wp2
  refine bodyPost_ret (results_row_tmp Tryz.results50 _ _ o1 71 _ (0, 0) _ (by rfl) (hZ0.row _) Tryz.underlying71 rfl (by kernel_rfl)) rfl ⟨rfl, hU0.setRow hlw _⟩
end Go.Proofs.YtdlcmpbpdbpanaaGreatDoor
namespace Go.Proofs.YtdlcmpbpdbpanaaGreatDoor
open Go.RowKit Go.Sp
set_option maxHeartbeats 2000000
set_option maxRecDepth 20000

/-- Rows of bytes. -/
def BRowsAt (w : World) (v : Value) (rs : List (List Int)) : Prop :=
  rs.length ≤ 9223372036854775807 ∧ ∃ a cap, v = .slice a rs.length cap ∧ (rs ≠ [] → ∃ b off, a = some ⟨b, off, none⟩ ∧ ∀ i, i < rs.length → ∃ u, w.cell? ⟨b, off + i, none⟩ = some u ∧ SeqAt .u8 w u (rs.getD i []))
theorem BRowsAt.up {w w' : World} {v : Value} {rs : List (List Int)} (h : BRowsAt w v rs) (hU : Up w w') : BRowsAt w' v rs := by
  obtain ⟨hl, a, cap, hv, hc⟩ := h
  refine ⟨hl, a, cap, hv, fun hne => ?_⟩
  obtain ⟨b, off, ha, hcell⟩ := hc hne
  refine ⟨b, off, ha, fun i hi => ?_⟩
  obtain ⟨u, hu, hI⟩ := hcell i hi
  exact ⟨u, by rw [hU.cell (cell_in hu)]; exact hu, hI.up hU⟩
theorem brows_cell {w w' : World} {a : Option Addr} {n cap : Nat} {rs : List (List Int)} (h : BRowsAt w (.slice a n cap) rs) (hU : Up w w') {i : Nat} (hi : i < rs.length) :
    ∃ b off u, a = some ⟨b, off, none⟩ ∧ w'.cell? ⟨b, off + i, none⟩ = some u ∧ SeqAt .u8 w' u (rs.getD i []) := by
  obtain ⟨_, a', cap', hv, hc⟩ := h
  injection hv with e1 e2 e3
  subst e1
  obtain ⟨b, off, rfl, hcell⟩ := hc (by rintro rfl; simp at hi)
  obtain ⟨u, hu, hI⟩ := hcell i hi
  exact ⟨b, off, u, rfl, by rw [hU.cell (cell_in hu)]; exact hu, hI.up hU⟩
/-- One row, in a block of its own. -/
theorem brows_one {w : World} {b : Nat} {u : Value} {m : List Int} (h : w.cell? ⟨b, 0, none⟩ = some u) (hu : SeqAt .u8 w u m) (cap : Nat) : BRowsAt w (.slice (some ⟨b, 0, none⟩) 1 cap) [m] :=
  ⟨by simp, _, cap, rfl, fun _ => ⟨b, 0, rfl, fun i hi => by
    obtain rfl : i = 0 := by simp at hi; omega
    exact ⟨u, by simpa using h, by simpa using hu⟩⟩⟩

/-- The place of the first row that p says yes to; -1 if there is none. -/
def idxY (p : List Int → Bool) : List (List Int) → Nat → Int
  | [], _ => -1
  | x :: l, k => if p x = true then (k : Int) else idxY p l (k + 1)

set_option maxRecDepth 20000 in
theorem IndexFuncY (f : FuncId) (p : List Int → Bool) (v : Value) (rs : List (List Int)) (w : World) (hv : BRowsAt w v rs)
    (hcf : ∀ args w, (callFunc f args).run Tryz.prog w = .ok (.enter f args) w)
    (hf : ∀ x, x ∈ rs → ∀ u w', Up w w' → SeqAt .u8 w' u x → Calls Tryz.prog f #[u] w' fun e w'' => e = .returned (.bool (p x)) ∧ Up w' w'') :
    Calls Tryz.prog 161 #[v, .func (.func f) #[] #[]] w fun e w' => e = .returned (.int .i64 (idxY p rs 0)) ∧ Up w w' := by
  have HF := hid hf
  clear hf
  have HV := hid hv
  obtain ⟨hlen, a, cap, rfl, hc⟩ := hv
  clear hc
  obtain ⟨R, hR⟩ : ∃ R, idxY p rs 0 = R := ⟨_, rfl⟩
  rw [hR]
  have HR := hid hR
  clear hR
  go_enter Tryz.func161, Tryz.ntmps161
  go_wp2_with fail
  go_loopw [8] (fun vi wr => ∃ i : Nat, i ≤ rs.length ∧ vi = .int .i64 i ∧ idxY p rs 0 = idxY p (rs.drop i) i ∧ Up w wr) (fun vi _ => rs.length - (intOf vi).toNat)
  case atStart => exact ⟨0, by omega, rfl, rfl, Up.refl _⟩
  case round =>
    obtain ⟨i, hi, rfl, hI, hU⟩ := hrel
    have HI := hid hI
    clear hI
    by_cases hl : i < rs.length
    · obtain ⟨b, off, u, rfl, hx2, hI2⟩ := brows_cell HV.out hU hl
      have hd := rows_drop hl
      have hm := rows_mem hl
      have HI2 : Hid (idxY p rs 0 = if p (rs.getD i []) = true then (i : Int) else idxY p (rs.drop (i + 1)) (i + 1)) := hid (by rw [HI.out, hd]; rfl)
      clear HI hd
      have HE := hid (fun w' (h1 : Up w w') (h2 : SeqAt .u8 w' u (rs.getD i [])) => HF.out (rs.getD i []) hm u w' h1 h2)
      have HIx := hid hI2
      clear hm hI2
      generalize rs.getD i [] = x at *
      go_wp2_with fail
      refine (HE.out _ hU HIx.out).mono ?_
      rintro e w2 ⟨rfl, hU2⟩
      generalize p x = C at *
      cases C
      · go_wp2
        go_roundw
        case rel => exact ⟨i + 1, by omega, by go_num, by rw [HI2.out]; rfl, hU.trans hU2⟩
        case measure => simp [intOf]; omega
      · have hB2 : R = (i : Int) := by rw [← HR.out, HI2.out]; rfl
        have HB2 := hid hB2
        clear hB2
        go_wp2
        go_ret
        exact ⟨by rw [HB2.out]; rfl, hU.trans hU2⟩
    · have hB2 : R = -1 := by rw [← HR.out, HI.out, List.drop_eq_nil_of_le (by omega)]; rfl
      have hl2 : decide (i < rs.length) = false := by simpa using hl
      subst hB2
      go_wp2
      go_ret
      exact ⟨rfl, hU⟩

theorem idxY_nonneg (p : List Int → Bool) : ∀ (rs : List (List Int)) (k : Nat), decide (0 ≤ idxY p rs k) = rs.any p
  | [], _ => rfl
  | x :: l, k => by
    rw [idxY, List.any_cons]
    by_cases h : p x = true
    · rw [if_pos h, h]; simp
    · rw [if_neg h, idxY_nonneg p l (k + 1)]; simp [h]

theorem ContainsFuncY (f : FuncId) (p : List Int → Bool) (v : Value) (rs : List (List Int)) (w : World) (hv : BRowsAt w v rs)
    (hcf : ∀ args w, (callFunc f args).run Tryz.prog w = .ok (.enter f args) w)
    (hf : ∀ x, x ∈ rs → ∀ u w', Up w w' → SeqAt .u8 w' u x → Calls Tryz.prog f #[u] w' fun e w'' => e = .returned (.bool (p x)) ∧ Up w' w'') :
    Calls Tryz.prog 97 #[v, .func (.func f) #[] #[]] w fun e w' => e = .returned (.bool (rs.any p)) ∧ Up w w' := by
  have HI := hid (IndexFuncY f p v rs w hv hcf hf)
  have HN := hid (idxY_nonneg p rs 0)
  clear hf hv hcf
  generalize idxY p rs 0 = k at *
  go_enter Tryz.func97, Tryz.ntmps97
  go_wp2_with fail
  refine HI.out.mono ?_
  rintro e w2 ⟨rfl, hU2⟩
  go_wp2
  go_ret
  exact ⟨by rw [← HN.out]; rfl, hU2⟩


def lng22 (n : Nat) : Bool := decide (n > 500) && decide (n ≤ 16384)
theorem long22_one (v : Value) (m : List Int) (w : World) (hv : SeqAt .u8 w v m) : Calls Tryz.prog 98 #[v] w fun e w' => e = .returned (.bool (lng22 m.length)) ∧ Up w w' := by
  obtain ⟨va, vc, rfl, _, _⟩ := hv.shape
  obtain ⟨n, hn⟩ : ∃ n, m.length = n := ⟨_, rfl⟩
  rw [hn]
  clear hv hn
  by_cases h1 : n > 500
  · have d1 : decide ((n : Int) > 500) = true := by simp; omega
    by_cases h2 : n ≤ 16384
    · have d2 : decide ((n : Int) ≤ 16384) = true := by simp; omega
      rw [show lng22 n = true by simp [lng22, h1, h2]]
      clear h1 h2
      go_enter Tryz.func98, Tryz.ntmps98
      go_wp2
      go_ret
      exact ⟨rfl, Up.refl w⟩
    · have d2 : decide ((n : Int) ≤ 16384) = false := by simp; omega
      rw [show lng22 n = false by simp [lng22, h2]]
      clear h1 h2
      go_enter Tryz.func98, Tryz.ntmps98
      go_wp2
      go_ret
      exact ⟨rfl, Up.refl w⟩
  · have d1 : decide ((n : Int) > 500) = false := by simp; omega
    rw [show lng22 n = false by simp [lng22, h1]]
    clear h1
    go_enter Tryz.func98, Tryz.ntmps98
    go_wp2
    go_ret
    exact ⟨rfl, Up.refl w⟩

theorem long22_any (v : Value) (rs : List (List Int)) (w : World) (hv : BRowsAt w v rs) : Calls Tryz.prog 29 #[v] w fun e w' => e = .returned (.bool (rs.any fun m => lng22 m.length)) ∧ Up w w' := by
  have M1 := hid (ContainsFuncY 98 (fun m => lng22 m.length) v rs w hv (fun _ _ => rfl) (fun x _ u w' _ hu => long22_one u x w' hu))
  generalize (rs.any fun m => lng22 m.length) = T at *
  obtain ⟨hl, a, cap, rfl, _⟩ := hv
  go_enter Tryz.func29, Tryz.ntmps29
  go_wp2_with fail
  refine M1.out.mono ?_
  rintro e w1 ⟨rfl, hU1⟩
  go_wp2
  go_ret
  exact ⟨rfl, hU1⟩
end Go.Proofs.YtdlcmpbpdbpanaaGreatDoor
namespace Go.Proofs.YtdlcmpbpdbpanaaGreatDoor
open Go.RowKit Go.Sp
set_option maxHeartbeats 4000000
set_option maxRecDepth 20000

/-- A list of signatures. -/
def SigsAt (w : World) (v : Value) (l : List (Int × Int)) : Prop :=
  l.length ≤ 9223372036854775807 ∧ ∃ a cap, v = .slice a l.length cap ∧ (l ≠ [] → ∃ b off, a = some ⟨b, off, none⟩ ∧ ∀ i, i < l.length → w.cell? ⟨b, off + i * 2, none⟩ = some (.int .i64 (l.getD i (0, 0)).1) ∧ w.cell? ⟨b, off + i * 2 + 1, none⟩ = some (.int .i64 (l.getD i (0, 0)).2))
theorem SigsAt.up {w w' : World} {v : Value} {l : List (Int × Int)} (h : SigsAt w v l) (hU : Up w w') : SigsAt w' v l := by
  obtain ⟨hl, a, cap, hv, hc⟩ := h
  refine ⟨hl, a, cap, hv, fun hne => ?_⟩
  obtain ⟨b, off, ha, hcell⟩ := hc hne
  refine ⟨b, off, ha, fun i hi => ?_⟩
  obtain ⟨h1, h2⟩ := hcell i hi
  exact ⟨by rw [hU.cell (cell_in h1)]; exact h1, by rw [hU.cell (cell_in h2)]; exact h2⟩
theorem sigs_cell {w w' : World} {a : Option Addr} {n cap : Nat} {l : List (Int × Int)} (h : SigsAt w (.slice a n cap) l) (hU : Up w w') {i : Nat} (hi : i < l.length) :
    ∃ b off, a = some ⟨b, off, none⟩ ∧ w'.cell? ⟨b, off + i * 2, none⟩ = some (.int .i64 (l.getD i (0, 0)).1) ∧ w'.cell? ⟨b, off + i * 2 + 1, none⟩ = some (.int .i64 (l.getD i (0, 0)).2) := by
  obtain ⟨_, a', cap', hv, hc⟩ := h
  injection hv with e1 e2 e3
  subst e1
  obtain ⟨b, off, rfl, hcell⟩ := hc (by rintro rfl; simp at hi)
  obtain ⟨h1, h2⟩ := hcell i hi
  exact ⟨b, off, rfl, by rw [hU.cell (cell_in h1)]; exact h1, by rw [hU.cell (cell_in h2)]; exact h2⟩

/-- Whether the i-th of three lists is a right signature. -/
def oneV (P Q G : Int) (ys : List Int) (ms : List (List Int)) (l : List (Int × Int)) (i : Nat) : Bool := verS P Q G (ys.getD i 0) (ms.getD i []) (l.getD i (0, 0)).1 (l.getD i (0, 0)).2
def allV (P Q G : Int) (ys : List Int) (ms : List (List Int)) (l : List (Int × Int)) : Bool :=
  gvB P Q G && (decide (l.length ≤ 1000) && (decide (ys.length = l.length) && (decide (ms.length = l.length) && (List.range l.length).all (oneV P Q G ys ms l))))
theorem range_all_false {p : Nat → Bool} {n i : Nat} (hi : i < n) (h : p i = false) : (List.range n).all p = false := by
  rw [List.all_eq_false]
  exact ⟨i, List.mem_range.2 hi, by rw [h]; simp⟩
theorem range_all_true {p : Nat → Bool} {n : Nat} (h : ∀ j, j < n → p j = true) : (List.range n).all p = true := by
  rw [List.all_eq_true]
  exact fun x hx => h x (List.mem_range.1 hx)

theorem sigAll_any (P Q G : Int) (v1 v2 v3 : Value) (ys : List Int) (ms : List (List Int)) (l : List (Int × Int)) (w : World) (hP : -9223372036854775808 ≤ P) (hQ : Q ≤ 9223372036854775807) (hT : Tab w) (hS : TabS w) (h1 : IntsAt w v1 ys) (h2 : BRowsAt w v2 ms) (h3 : SigsAt w v3 l) (hm : ∀ m ∈ ms, ∀ x ∈ m, 0 ≤ x ∧ x ≤ 255) :
    Calls Tryz.prog 41 #[grp P Q G, v1, v2, v3] w fun e w' => e = .returned (.bool (allV P Q G ys ms l)) ∧ Up w w' := by
  have HT := hid hT
  have HY := hid h1
  have HR := hid h2
  have HL := hid h3
  have M1 := hid (fun w' (hU : Up w w') => Valid_any P Q G w' hP hQ (hT.up hU))
  have M2 := hid (fun (i : Nat) (hi : i < ms.length) (u : Value) w' (hU : Up w w') (hu : SeqAt .u8 w' u (ms.getD i [])) => sigVerify_any P Q G (ys.getD i 0) (l.getD i (0, 0)).1 (l.getD i (0, 0)).2 u (ms.getD i []) w' hP hQ (hT.up hU) (hS.up hU) hu (hm _ (rows_mem hi)))
  have HB : Hid (allV P Q G ys ms l = (gvB P Q G && (decide (l.length ≤ 1000) && (decide (ys.length = l.length) && (decide (ms.length = l.length) && (List.range l.length).all (oneV P Q G ys ms l)))))) := hid rfl
  have HO1 := hid (fun i => (show oneV P Q G ys ms l i = verS P Q G (ys.getD i 0) (ms.getD i []) (l.getD i (0, 0)).1 (l.getD i (0, 0)).2 from rfl))
  generalize allV P Q G ys ms l = T at *
  generalize oneV P Q G ys ms l = p at *
  obtain ⟨hl1, a1, cp1, rfl, hc1⟩ := h1
  obtain ⟨hl2, a2, cp2, rfl, _⟩ := h2
  obtain ⟨hl3, a3, cp3, rfl, _⟩ := h3
  have HC1 := hid hc1
  obtain ⟨n1, hn1⟩ : ∃ n, ys.length = n := ⟨_, rfl⟩
  obtain ⟨n2, hn2⟩ : ∃ n, ms.length = n := ⟨_, rfl⟩
  obtain ⟨n3, hn3⟩ : ∃ n, l.length = n := ⟨_, rfl⟩
  have HN1 := hid hn1
  have HN2 := hid hn2
  have HN3 := hid hn3
  rw [hn1] at hl1 HB
  rw [hn2] at hl2 HB HR
  rw [hn3] at hl3 HB HL
  rw [hn1, hn2, hn3]
  obtain ⟨o, ho⟩ : ∃ o, w.heap.size = o := ⟨_, rfl⟩
  have HO := hid ho
  clear hT hS hm hc1 hn1 hn2 hn3 ho HY
  go_enter Tryz.func41, Tryz.ntmps41
  go_wp2_with fail
  refine (M1.out _ ((Up.refl w).alloc _)).mono ?_
  rintro e w1 ⟨rfl, hU1⟩
  have HA1 := hid ((nums_three (w := w) (t := 23) HO.out).up hU1)
  have HU1 := hid (((Up.refl w).alloc _).trans hU1)
  clear hU1
  rw [HO.out]
  obtain ⟨c0, c1, c2⟩ := HA1.out
  by_cases h : gvB P Q G = true
  case neg =>
    have h' : gvB P Q G = false := by simpa using h
    have hX : T = false := by rw [HB.out, h']; rfl
    subst hX
    rw [h']
    clear h h'
    go_wp2
    go_ret
    exact ⟨rfl, HU1.out⟩
  rw [h] at HB ⊢
  clear h
  by_cases h : n3 > 1000
  case pos =>
    have d1 : decide ((n3 : Int) > 1000) = true := by simp; omega
    have hX : T = false := by rw [HB.out, show decide (n3 ≤ 1000) = false by simp; omega]; rfl
    subst hX
    clear h
    go_wp2
    go_ret
    exact ⟨rfl, HU1.out⟩
  have d1 : decide ((n3 : Int) > 1000) = false := by simp; omega
  have e1 : decide (n3 ≤ 1000) = true := by simp; omega
  clear h
  by_cases h : n1 = n3
  case neg =>
    have d2 : ((n1 : Int) != (n3 : Int)) = true := by simp; omega
    have hX : T = false := by rw [HB.out, e1, show decide (n1 = n3) = false by simpa using h]; rfl
    subst hX
    clear h
    go_wp2
    go_ret
    exact ⟨rfl, HU1.out⟩
  subst h
  have d2 : ((n1 : Int) != (n1 : Int)) = false := by simp
  by_cases h : n2 = n1
  case neg =>
    have d3 : ((n2 : Int) != (n1 : Int)) = true := by simp; omega
    have hX : T = false := by rw [HB.out, e1, show decide (n2 = n1) = false by simpa using h]; simp
    subst hX
    clear h
    go_wp2
    go_ret
    exact ⟨rfl, HU1.out⟩
  subst h
  have HB1 : Hid (T = (List.range n2).all p) := hid (by rw [HB.out, e1]; simp)
  clear HB e1
  go_wp2_with fail
  go_loopw [35] (fun vi wr => ∃ i : Nat, i ≤ n2 ∧ vi = .int .i64 i ∧ Hid (∀ j, j < i → p j = true) ∧ Hid (Up w wr) ∧ Hid (GrpAt wr o P Q G)) (fun vi _ => n2 - (intOf vi).toNat)
  case atStart => exact ⟨0, by omega, rfl, hid (fun j hj => by omega), HU1, HA1⟩
  case round =>
    clear HU1 HA1 c0 c1 c2
    obtain ⟨i, hi, rfl, HP, HU, HA⟩ := hrel
    obtain ⟨c0, c1, c2⟩ := HA.out
    by_cases hl : i < n2
    · have k1l : i < ys.length := by rw [HN1.out]; exact hl
      have k2l : i < ms.length := by rw [HN2.out]; exact hl
      have k3l : i < l.length := by rw [HN3.out]; exact hl
      obtain ⟨by1, oy1, rfl, ky⟩ := ints_cell HC1.out HU.out k1l
      obtain ⟨bm, om, u, rfl, km, hmu⟩ := brows_cell HR.out HU.out k2l
      obtain ⟨bs, os, rfl, ks1, ks2⟩ := sigs_cell HL.out HU.out k3l
      have HMu := hid hmu
      have HMi := hid (fun w' (hU : Up w w') (hu : SeqAt .u8 w' u (ms.getD i [])) => M2.out i k2l u w' hU hu)
      have HVi := hid (HO1.out i)
      obtain ⟨ua, uc, rfl, _, _⟩ := hmu.shape
      have HBi : Hid (p i = false → T = false) := hid (fun h => by rw [HB1.out]; exact range_all_false hl h)
      have HPs : Hid (p i = true → ∀ j, j < i + 1 → p j = true) := hid (fun h j hj => by
        rcases Nat.lt_or_ge j i with h3 | h3
        · exact HP.out j h3
        · obtain rfl : j = i := by omega
          exact h)
      clear hmu k1l k2l k3l HP
      generalize ys.getD i 0 = y at *
      generalize (l.getD i (0, 0)).1 = c at *
      generalize (l.getD i (0, 0)).2 = s at *
      generalize ms.getD i [] = m at *
      obtain ⟨q, hq⟩ : ∃ q, p i = q := ⟨_, rfl⟩
      rw [hq] at HVi HBi HPs
      rw [← HVi.out] at HMi
      clear hq HVi
      obtain ⟨og, hog⟩ : ∃ og, wr.heap.size = og := ⟨_, rfl⟩
      go_wp2_with fail
      have hA := (Up.refl wr).alloc (.cells #[.int .i64 c, .int .i64 s] 67)
      have HU2 := hid (HU.out.trans hA)
      have HA2 := hid (HA.out.up hA)
      have HMu2 := hid (HMu.out.up hA)
      have fky := cellF (cellUp hA ky)
      have fkm := cellF (cellUp hA km)
      have hx := nums_two (w := wr) (r := og) (t := 67) (x := c) (y := s) hog
      clear c0 c1 c2 ky km ks1 ks2 HU HA HMu hA hog
      generalize wr.alloc (.cells #[.int .i64 c, .int .i64 s] 67) = w2 at *
      obtain ⟨c0, c1, c2⟩ := HA2.out
      obtain ⟨x0, x1⟩ := hx
      have fc0 := cellF c0
      have fc1 := cellF c1
      have fc2 := cellF c2
      have fx0 := cellF x0
      have fx1 := cellF x1
      clear c0 c1 c2 x0 x1
      refine wp_region_up (by kernel_rfl) (by kernel_rfl) ?_
      repeat (go_big_quiet_step ((first
        | (go_at_call 40; exact Calls.up_of (HMi.out _ (HU2.out.trans (UpFrom.up _)) (HMu2.out.up (UpFrom.up _)))))))
      refine wpQuiet_nil ?_
      rintro w3 ⟨⟨_, hU3⟩, rfl⟩
      try dsimp only
      have HU3 := hid (HU2.out.trans hU3)
      have HA3 := hid (HA2.out.up hU3)
      clear hU3 fky fkm fc0 fc1 fc2 fx0 fx1 HU2 HA2 HMu2
      cases q
      · obtain rfl := HBi.out rfl
        go_wp2
        go_ret
        exact ⟨rfl, HU3.out⟩
      · go_wp2_with fail
        go_roundw
        case rel => exact ⟨i + 1, by omega, by go_num, hid (HPs.out rfl), HU3, HA3⟩
        case measure => simp [intOf]; omega
    · obtain rfl : i = n2 := by omega
      have hX : T = true := by rw [HB1.out]; exact range_all_true HP.out
      subst hX
      go_wp2
      go_ret
      exact ⟨rfl, HU.out⟩
end Go.Proofs.YtdlcmpbpdbpanaaGreatDoor
namespace Go.Proofs.YtdlcmpbpdbpanaaGreatDoor
open Go.ChangeShapes Go.WideShapes Go.ChangeAt Go.RowKit Go.Sp Go.Joins

section
variable {H : Type} {enc : TypeId × Value → H} {P : Program}

theorem trodAll_later (hl : laidOutB P = true) {W W' : World} (hb : Below W.heap.size W W') : ∀ {ts : List TypeId} {vs : List Value} {ds : List (DataW H)} {ps : List MemPlace},
    ts.all (fun t => P.readableRec t && decide (t < P.types.size)) = true → (∀ x ∈ ps, x.block < W.heap.size) → DataW.TrodAll enc P W 0 (fun _ => true) true ts vs ds ps →
    DataW.TrodAll enc P W' 0 (fun b => decide (b < W.heap.size)) true ts vs ds ps
  | [], _, _, _, _, _, h => by
    obtain ⟨rfl, rfl, rfl⟩ := trodAll_nil h
    exact trodAll_mk0
  | t :: ts, _, _, _, hr, hlt, h => by
    obtain ⟨v, vs, d, ds, p, q, rfl, rfl, rfl, h1, h2⟩ := trodAll_cons h
    simp only [List.all_cons, Bool.and_eq_true, decide_eq_true_eq] at hr
    exact trodAll_cons_mk (Below.trod hl hr.1.1 hr.1.2 h1 hb (fun x hx => hlt x (List.mem_append_left _ hx)))
      (trodAll_later hl hb hr.2 (fun x hx => hlt x (List.mem_append_right _ hx)) h2)

/-- A law's post: true came back; nothing that was there has turned. -/
theorem law_shut {f : Func} {s : ChangeSpec} {T : TypeId} {W W' : World} {args : Array Value} {ds gs : List (DataW H)} {before : List MemPlace} (hb : P.underlying T = some .bool) (hr : f.resultTypes = #[T]) (hv : s.vars = [])
    (hs : s.fn H (ds ++ gs) = { results := [.lit (.bool true)], args := ds }) (hl : laidOutB P = true) (hpar : f.params.toList.all (fun t => P.readableRec t && decide (t < P.types.size)) = true)
    (hW : DataW.Whole enc P f.params.toList s.vars false W args.toList ds gs before) (hU : Below W.heap.size W W') : s.post enc P f false true false false W args (.bool true) W' := by
  have hlt := hW.lt
  have hW2 := hW
  obtain ⟨p, q, hA, hV, rfl, -, -⟩ := hW2
  rw [hv] at hV
  obtain ⟨rfl, rfl⟩ := trodVars_none hV
  rw [List.append_nil] at hlt
  refine ⟨ds, [], p ++ [], [], p, [], hW, ?_, ?_, ?_, Below.frame hU _, fun h => by cases h⟩
  · rw [hs, hr]
    exact trodAll_mk1 (shut_bool hb true)
  · rw [hs]
    exact trodAll_later hl hU hpar hlt hA
  · rw [hs, hv]
    rfl
end

theorem own : ownKnob Tryz.prog.godebug = none := by kernel_rfl
theorem laidOut : laidOutB Tryz.prog = true := by kernel_rfl
theorem gBases : Tryz.prog.globalNamed "specie/prime.bases" = some 2 := by kernel_rfl
theorem gBasesType : (Tryz.prog.globals[2]?).map (·.type) = some 238 := by kernel_rfl
theorem gTab : Tryz.prog.globalNamed "math/bits.deBruijn64tab" = some 3 := by kernel_rfl
theorem gTabType : (Tryz.prog.globals[3]?).map (·.type) = some 261 := by kernel_rfl
theorem cellsBases : Tryz.prog.cellsOf 238 = 12 := by kernel_rfl
theorem cellsTab : Tryz.prog.cellsOf 261 = 64 := by kernel_rfl
theorem cellsU64 : Tryz.prog.cellsOf 190 = 1 := by kernel_rfl
theorem cellsU8 : Tryz.prog.cellsOf 5 = 1 := by kernel_rfl
theorem cellsInt : Tryz.prog.cellsOf 3 = 1 := by kernel_rfl
theorem cellsGroup : Tryz.prog.cellsOf 23 = 3 := by kernel_rfl

/-- What each row lists. -/
abbrev laidTwo : List (String × DataW Unit) := [("math/bits.deBruijn64tab", Rows.laid_math_bits_deBruijn64tab), ("specie/prime.bases", Rows.laid_specie_prime_bases)]

theorem laid_tail {P : Program} {x : String × DataW Unit} {l : List (String × DataW Unit)} {w : World} (h : laidMet P (x :: l) w) : laidMet P l w := laidMet.tail h

theorem tab_of_laid {W : World} (h : laidMetH Tryz.prog laidTwo W) : Tab W := by
  have h0 : laidMet Tryz.prog laidTwo W := h
  have t1 : Lib.TabIs Tryz.prog W "math/bits.deBruijn64tab" .u8 (Lib.deBruijn64tab.map fun n : Nat => (n : Int)) :=
    Lib.tabIs_of_head (rest := [("specie/prime.bases", Rows.laid_specie_prime_bases)]) gTab gTabType Tryz.underlying261 Tryz.underlying5 cellsU8 cellsTab h0
  have t2 : Lib.TabIs Tryz.prog W "specie/prime.bases" .u64 baseList :=
    Lib.tabIs_of_head (rest := []) gBases gBasesType Tryz.underlying238 Tryz.underlying190 cellsU64 cellsBases (laid_tail h0)
  refine ⟨?_, fun i hi => ?_⟩
  · unfold Lib.TabIs World.var? at t2
    rw [gBases] at t2
    simp only [Option.bind_some] at t2
    split at t2
    · rename_i cs t fr hh
      simp only [Option.some.injEq] at t2
      exact ⟨t, fr, by rw [hh, t2]; rfl⟩
    · cases t2
  · have := t1.cell gTab i (by simpa [Lib.deBruijn64tab] using hi)
    rw [this]
    simp [List.getD_eq_getElem?_getD]
    cases h : Lib.deBruijn64tab[i]? <;> simp

set_option maxRecDepth 100000 in
/-- A group among the arguments: three numbers in their range. -/
theorem open_grp {H : Type} {enc : TypeId × Value → H} {r : Reach} {b0 base : Nat} {spare : Nat → Bool} {held : Bool} {w : World} {v : Value} {d : DataW H} {p : List MemPlace}
    (hv : Value.okWide Tryz.prog w r b0 23 v) (h : DataW.Trod enc Tryz.prog w base spare held 23 v d p) :
    ∃ P Q G : Int, v = grp P Q G ∧ (-9223372036854775808 ≤ P ∧ P ≤ 9223372036854775807) ∧ (-9223372036854775808 ≤ Q ∧ Q ≤ 9223372036854775807) ∧ (-9223372036854775808 ≤ G ∧ G ≤ 9223372036854775807) := by
  obtain ⟨c0, c1, c2, y0, y1, y2, m, rfl, rfl, rfl, hy0, hy1, hy2⟩ := open_agg3 Tryz.underlying23 (by kernel_rfl) cellsGroup hv h
  obtain ⟨a, e0, rfl, wa⟩ := DataW.trod_int Tryz.underlying3 hy0
  obtain ⟨b, e1, rfl, wb⟩ := DataW.trod_int Tryz.underlying3 hy1
  obtain ⟨c, e2, rfl, wc⟩ := DataW.trod_int Tryz.underlying3 hy2
  simp at e0 e1 e2
  subst e0 e1 e2
  exact ⟨a, b, c, rfl, bounds_i64 wa, bounds_i64 wb, bounds_i64 wc⟩

set_option maxRecDepth 100000 in
/-- An int among the arguments. -/
theorem open_i64 {H : Type} {enc : TypeId × Value → H} {r : Reach} {b0 base : Nat} {spare : Nat → Bool} {held : Bool} {w : World} {v : Value} {d : DataW H} {p : List MemPlace}
    (hv : Value.okWide Tryz.prog w r b0 3 v) (h : DataW.Trod enc Tryz.prog w base spare held 3 v d p) :
    ∃ x : Int, v = .int .i64 x ∧ -9223372036854775808 ≤ x ∧ x ≤ 9223372036854775807 := by
  obtain ⟨x, rfl, rfl, rfl, wx⟩ := open_int Tryz.underlying3 hv h
  exact ⟨x, rfl, (bounds_i64 wx).1, (bounds_i64 wx).2⟩
end Go.Proofs.YtdlcmpbpdbpanaaGreatDoor
