/- Verify and All accept exactly the right signatures: specielaw22.SignatureVerifies returns true. For every input; the tables of packages math/bits, prime and digest as the program's text lays them. The closed facts of the row of specielaw22.SignatureVerifies, one by one: all at once they outgrow the memory. SignatureVerifies: the walk. -/
import Derived.Test.YtdlcmpbpdbpanaaGreatDoorMB30
import Derived.Test.YtdlcmpbpdbpanaaGreatDoorMB32
import Derived.Test.YtdlcmpbpdbpanaaGreatDoorRows
import Derived.Laws.Small
import Derived.JoinedCond
import Derived.KernelRfl
import Derived.Lay
namespace Go.Proofs.YtdlcmpbpdbpanaaGreatDoor
open Go.RowKit Go.Sp
set_option maxHeartbeats 4000000
set_option maxRecDepth 20000

theorem max_three (P : Program) (ts : Array TypeId) (t : TypeId) (a b c : Nat) : ∃ m : Nat, (∀ w, (Builtin.max_ ts t #[.int .i64 (a : Int), .int .i64 (b : Int), .int .i64 (c : Int)]).run P w = .ok (.int .i64 (m : Int)) w) ∧ a ≤ m ∧ b ≤ m ∧ c ≤ m ∧ (m = a ∨ m = b ∨ m = c) := by
  refine ⟨if c > (if b > a then b else a) then c else (if b > a then b else a), fun w => ?_, ?_, ?_, ?_, ?_⟩
  · by_cases h1 : a < b <;> by_cases h2 : b < c <;> by_cases h3 : a < c <;> simp [Builtin.max_, Builtin.max2, h1, h2, h3]
  all_goals (repeat' split) <;> omega
theorem min_three (P : Program) (ts : Array TypeId) (t : TypeId) (a b c : Nat) : ∃ m : Nat, (∀ w, (Builtin.min_ ts t #[.int .i64 (a : Int), .int .i64 (b : Int), .int .i64 (c : Int)]).run P w = .ok (.int .i64 (m : Int)) w) ∧ m ≤ a ∧ m ≤ b ∧ m ≤ c ∧ (m = a ∨ m = b ∨ m = c) := by
  refine ⟨if c < (if b < a then b else a) then c else (if b < a then b else a), fun w => ?_, ?_, ?_, ?_, ?_⟩
  · by_cases h1 : b < a <;> by_cases h2 : c < b <;> by_cases h3 : c < a <;> simp [Builtin.min_, Builtin.min2, h1, h2, h3]
  all_goals (repeat' split) <;> omega

theorem SignatureVerifies_walk (P Q G : Int) (v1 v2 v3 : Value) (ys : List Int) (ms : List (List Int)) (l : List (Int × Int)) (w : World) (hP : -9223372036854775808 ≤ P) (hQ : Q ≤ 9223372036854775807) (hT : Tab w) (hS : TabS w) (h1 : IntsAt w v1 ys) (h2 : BRowsAt w v2 ms) (h3 : SigsAt w v3 l) (hm : ∀ m ∈ ms, ∀ x ∈ m, 0 ≤ x ∧ x ≤ 255) :
    Calls Tryz.prog 7 #[grp P Q G, v1, v2, v3] w fun e w' => e = .returned (.bool true) ∧ Up w w' := by
  have HT := hid hT
  have HR := hid h2
  have HL := hid h3
  have M0 := hid (fun w' (hU : Up w w') => long22_any v2 ms w' (h2.up hU))
  have M1 := hid (fun w' => rValid_any P Q G w' hP hQ)
  have M2 := hid (fun (i : Nat) (hi : i < ms.length) (u : Value) w' (hU : Up w w') (hu : SeqAt .u8 w' u (ms.getD i [])) => sigVerify_any P Q G (ys.getD i 0) (l.getD i (0, 0)).1 (l.getD i (0, 0)).2 u (ms.getD i []) w' hP hQ (hT.up hU) (hS.up hU) hu (hm _ (rows_mem hi)))
  have M3 := hid (fun (i : Nat) (hi : i < ms.length) (u : Value) w' (_ : Up w w') (hu : SeqAt .u8 w' u (ms.getD i [])) => r22Verify_any P Q G (ys.getD i 0) (l.getD i (0, 0)).1 (l.getD i (0, 0)).2 u (ms.getD i []) w' hP hQ hu (hm _ (rows_mem hi)))
  have M4 := hid (fun w' (hU : Up w w') => sigAll_any P Q G v1 v2 v3 ys ms l w' hP hQ (hT.up hU) (hS.up hU) (h1.up hU) (h2.up hU) (h3.up hU) hm)
  have HB : Hid (allV P Q G ys ms l = (gvB P Q G && (decide (l.length ≤ 1000) && (decide (ys.length = l.length) && (decide (ms.length = l.length) && (List.range l.length).all (oneV P Q G ys ms l)))))) := hid rfl
  have HO1 := hid (fun i => (show oneV P Q G ys ms l i = verS P Q G (ys.getD i 0) (ms.getD i []) (l.getD i (0, 0)).1 (l.getD i (0, 0)).2 from rfl))
  generalize allV P Q G ys ms l = T at *
  generalize oneV P Q G ys ms l = p at *
  generalize (ms.any fun m => lng22 m.length) = L at *
  obtain ⟨hl1, a1, cp1, rfl, hc1⟩ := h1
  obtain ⟨hl2, a2, cp2, rfl, _⟩ := h2
  obtain ⟨hl3, a3, cp3, rfl, _⟩ := h3
  have HC1 := hid hc1
  obtain ⟨n1, hn1⟩ : ∃ n, ys.length = n := ⟨_, rfl⟩
  obtain ⟨n2, hn2⟩ : ∃ n, ms.length = n := ⟨_, rfl⟩
  obtain ⟨n3, hn3⟩ : ∃ n, l.length = n := ⟨_, rfl⟩
  have HN1 := hid hn1
  have HN2 := hid hn2
  have HN3 := hid hn3
  rw [hn1] at hl1 HB M4
  rw [hn2] at hl2 HB HR M0 M4
  rw [hn3] at hl3 HB HL M4
  rw [hn1, hn2, hn3]
  obtain ⟨o, ho⟩ : ∃ o, w.heap.size = o := ⟨_, rfl⟩
  have HO := hid ho
  clear hT hS hm hc1 hn1 hn2 hn3 ho
  go_enter Tryz.func7, Tryz.ntmps7
  go_wp2_with fail
  refine (awake22 _ (HT.out.up ((Up.refl w).alloc _))).mono ?_
  rintro e w1 ⟨rfl, hU1⟩
  have HA1 := hid ((nums_three (w := w) (t := 23) HO.out).up hU1)
  have HU1 := hid (((Up.refl w).alloc _).trans hU1)
  clear hU1
  rw [HO.out]
  obtain ⟨c0, c1, c2⟩ := HA1.out
  go_wp2_with fail
  refine (M0.out _ (HU1.out)).mono ?_
  rintro e w2 ⟨rfl, hU2⟩
  have HA2 := hid (HA1.out.up hU2)
  have HU2 := hid (HU1.out.trans hU2)
  clear hU2 HA1 HU1 c0 c1 c2
  obtain ⟨c0, c1, c2⟩ := HA2.out
  cases L
  case true =>
    go_wp2
    go_ret
    exact ⟨rfl, HU2.out⟩
  obtain ⟨mx, hmx, mx1, mx2, mx3, mxo⟩ := max_three Tryz.prog #[3, 3, 3] 3 n1 n2 n3
  obtain ⟨mn, hmn, mn1, mn2, mn3, mno⟩ := min_three Tryz.prog #[3, 3, 3] 3 n1 n2 n3
  by_cases h : mx > 20
  case pos =>
    have d1 : decide ((mx : Int) > 20) = true := by simp; omega
    clear h
    go_wp2
    go_ret
    exact ⟨rfl, HU2.out⟩
  have d1 : decide ((mx : Int) > 20) = false := by simp; omega
  clear hl1 hl2 hl3
  go_wp2_with fail
  refine (M1.out _).mono ?_
  rintro e w3 ⟨rfl, hU3⟩
  have HA3 := hid (HA2.out.up hU3)
  have HU3 := hid (HU2.out.trans hU3)
  clear hU3 HA2 HU2 c0 c1 c2
  obtain ⟨c0, c1, c2⟩ := HA3.out
  obtain ⟨b0, hb0⟩ : ∃ b0, (gvB P Q G && (decide (n1 = n2) && decide (n1 = n3))) = b0 := ⟨_, rfl⟩
  have HE : Hid (∀ i, (b0 && (List.range i).all p) = false → b0 = false ∨ (List.range i).all p = false) := hid (fun i h => by
    cases b0
    · exact .inl rfl
    · exact .inr (by simpa using h))
  have HT2 : Hid (T = (b0 && (List.range mn).all p)) := hid (by
    rw [HB.out, ← hb0]
    cases gvB P Q G
    · rfl
    · by_cases e1 : n1 = n2
      · by_cases e2 : n1 = n3
        · rw [show mn = n3 by omega]
          rw [show decide (n3 ≤ 1000) = true by simp; omega, show decide (n1 = n3) = true by simpa using e2, show decide (n2 = n3) = true by simp; omega, show decide (n1 = n2) = true by simpa using e1]
          rfl
        · rw [show decide (n1 = n3) = false by simpa using e2]
          simp
      · by_cases e2 : n1 = n3
        · rw [show decide (n1 = n2) = false by simpa using e1, show decide (n2 = n3) = false by simp; omega]
          simp
        · rw [show decide (n1 = n3) = false by simpa using e2]
          simp)
  clear HB HE
  have h20 : mx ≤ 20 := by omega
  clear h
  by_cases h : gvB P Q G = true
  case neg =>
    have h' : gvB P Q G = false := by simpa using h
    have hb : b0 = false := by rw [← hb0, h']; rfl
    rw [h']
    subst hb
    clear h h' hb0
    go_wp2_with fail
    go_loopw [9, 49] (fun va vi wr => ∃ i : Nat, i ≤ mn ∧ vi = .int .i64 i ∧ va = .bool (false && (List.range i).all p) ∧ Hid (Up w wr) ∧ Hid (GrpAt wr o P Q G)) (fun _ vi _ => mn - (intOf vi).toNat)
    case atStart => exact ⟨0, by omega, rfl, by simp, HU3, HA3⟩
    case round =>
      clear HU3 HA3 c0 c1 c2
      obtain ⟨i, hi, rfl, rfl, HU, HA⟩ := hrel
      obtain ⟨c0, c1, c2⟩ := HA.out
      by_cases hl : i < mn
      · have k1l : i < ys.length := by rw [HN1.out]; omega
        have k2l : i < ms.length := by rw [HN2.out]; omega
        have k3l : i < l.length := by rw [HN3.out]; omega
        have i1 : i < n1 := by omega
        have i2 : i < n2 := by omega
        have i3 : i < n3 := by omega
        obtain ⟨by1, oy1, rfl, ky⟩ := ints_cell HC1.out HU.out k1l
        obtain ⟨bm, om, u, rfl, km, hmu⟩ := brows_cell HR.out HU.out k2l
        obtain ⟨bs, os, rfl, ks1, ks2⟩ := sigs_cell HL.out HU.out k3l
        have HMu := hid hmu
        have HMi := hid (fun w' (hU : Up w w') (hu : SeqAt .u8 w' u (ms.getD i [])) => M2.out i k2l u w' hU hu)
        have HMj := hid (fun w' (hU : Up w w') (hu : SeqAt .u8 w' u (ms.getD i [])) => M3.out i k2l u w' hU hu)
        have HVi := hid (HO1.out i)
        obtain ⟨ua, uc, rfl, _, _⟩ := hmu.shape
        have HS1 : Hid ((false && (List.range (i + 1)).all p) = ((false && (List.range i).all p) && p i)) := hid (by rw [List.range_succ, List.all_append]; simp)
        clear hmu k1l k2l k3l
        generalize ys.getD i 0 = y at *
        generalize (l.getD i (0, 0)).1 = c at *
        generalize (l.getD i (0, 0)).2 = s at *
        generalize ms.getD i [] = m at *
        obtain ⟨q, hq⟩ : ∃ q, p i = q := ⟨_, rfl⟩
        rw [hq] at HVi HS1
        rw [← HVi.out] at HMi HMj
        clear hq HVi
        obtain ⟨A0, hA0⟩ : ∃ A0, (false && (List.range i).all p) = A0 := ⟨_, rfl⟩
        rw [hA0] at HS1
        rw [hA0]
        clear hA0
        have eq : (q != q) = false := by simp
        have fky := cellF ky
        have fkm := cellF km
        have fk1 := cellF ks1
        have fk2 := cellF ks2
        have fc0 := cellF c0
        have fc1 := cellF c1
        have fc2 := cellF c2
        clear ky km ks1 ks2 c0 c1 c2
        go_wp2_with fail
        refine wp_region_up (by kernel_rfl) (by kernel_rfl) ?_
        repeat (go_big_quiet_step ((first
          | (go_at_call 39; exact Calls.up_of (HMj.out _ (HU.out.trans (UpFrom.up _)) (HMu.out.up (UpFrom.up _)))))))
        refine wpQuiet_nil ?_
        rintro w4 ⟨⟨_, hU4⟩, rfl⟩
        try dsimp only
        have HU4 := hid (HU.out.trans hU4)
        have HA4 := hid (HA.out.up hU4)
        have HM4 := hid (HMu.out.up hU4)
        have gky : w4.cell? ⟨by1, oy1 + i, none⟩ = some (.int .i64 y) := fky ⟨w4, hU4⟩
        have gkm : w4.cell? ⟨bm, om + i, none⟩ = some (.slice ua m.length uc) := fkm ⟨w4, hU4⟩
        have gk1 : w4.cell? ⟨bs, os + i * 2, none⟩ = some (.int .i64 c) := fk1 ⟨w4, hU4⟩
        have gk2 : w4.cell? ⟨bs, os + i * 2 + 1, none⟩ = some (.int .i64 s) := fk2 ⟨w4, hU4⟩
        obtain ⟨c0, c1, c2⟩ := HA4.out
        clear hU4 fky fkm fk1 fk2 fc0 fc1 fc2 HU HA HMu
        have fky := cellF gky
        have fkm := cellF gkm
        have fk1 := cellF gk1
        have fk2 := cellF gk2
        have fc0 := cellF c0
        have fc1 := cellF c1
        have fc2 := cellF c2
        clear gky gkm gk1 gk2 c0 c1 c2
        go_wp2_with fail
        refine wp_region_up (by kernel_rfl) (by kernel_rfl) ?_
        repeat (go_big_quiet_step ((first
          | (go_at_call 40; exact Calls.up_of (HMi.out _ (HU4.out.trans (UpFrom.up _)) (HM4.out.up (UpFrom.up _)))))))
        refine wpQuiet_nil ?_
        rintro w5 ⟨⟨_, hU5⟩, rfl⟩
        try dsimp only
        have HU5 := hid (HU4.out.trans hU5)
        have HA5 := hid (HA4.out.up hU5)
        clear hU5 fky fkm fk1 fk2 fc0 fc1 fc2 HU4 HA4 HM4
        cases A0
        · go_wp2_with fail
          go_roundw
          case rel => exact ⟨i + 1, by omega, by go_num, by rw [HS1.out]; rfl, HU5, HA5⟩
          case measure => simp [intOf]; omega
        · go_wp2_with fail
          go_roundw
          case rel => exact ⟨i + 1, by omega, by go_num, by rw [HS1.out]; rfl, HU5, HA5⟩
          case measure => simp [intOf]; omega
      · obtain rfl : i = mn := by omega
        rw [← HT2.out]
        have eT : (T == T) = true := by simp
        go_wp2_with fail
        refine (M4.out _ HU.out).mono ?_
        rintro e w6 ⟨rfl, hU6⟩
        go_wp2
        go_ret
        exact ⟨rfl, HU.out.trans hU6⟩
  rw [h] at hb0 ⊢
  clear h
  by_cases h : n1 = n2
  case neg =>
    have d2 : ((n1 : Int) == (n2 : Int)) = false := by simp; omega
    have hb : b0 = false := by rw [← hb0, show decide (n1 = n2) = false by simpa using h]; rfl
    subst hb
    clear h hb0
    go_wp2_with fail
    go_loopw [9, 49] (fun va vi wr => ∃ i : Nat, i ≤ mn ∧ vi = .int .i64 i ∧ va = .bool (false && (List.range i).all p) ∧ Hid (Up w wr) ∧ Hid (GrpAt wr o P Q G)) (fun _ vi _ => mn - (intOf vi).toNat)
    case atStart => exact ⟨0, by omega, rfl, by simp, HU3, HA3⟩
    case round =>
      clear HU3 HA3 c0 c1 c2
      obtain ⟨i, hi, rfl, rfl, HU, HA⟩ := hrel
      obtain ⟨c0, c1, c2⟩ := HA.out
      by_cases hl : i < mn
      · have k1l : i < ys.length := by rw [HN1.out]; omega
        have k2l : i < ms.length := by rw [HN2.out]; omega
        have k3l : i < l.length := by rw [HN3.out]; omega
        have i1 : i < n1 := by omega
        have i2 : i < n2 := by omega
        have i3 : i < n3 := by omega
        obtain ⟨by1, oy1, rfl, ky⟩ := ints_cell HC1.out HU.out k1l
        obtain ⟨bm, om, u, rfl, km, hmu⟩ := brows_cell HR.out HU.out k2l
        obtain ⟨bs, os, rfl, ks1, ks2⟩ := sigs_cell HL.out HU.out k3l
        have HMu := hid hmu
        have HMi := hid (fun w' (hU : Up w w') (hu : SeqAt .u8 w' u (ms.getD i [])) => M2.out i k2l u w' hU hu)
        have HMj := hid (fun w' (hU : Up w w') (hu : SeqAt .u8 w' u (ms.getD i [])) => M3.out i k2l u w' hU hu)
        have HVi := hid (HO1.out i)
        obtain ⟨ua, uc, rfl, _, _⟩ := hmu.shape
        have HS1 : Hid ((false && (List.range (i + 1)).all p) = ((false && (List.range i).all p) && p i)) := hid (by rw [List.range_succ, List.all_append]; simp)
        clear hmu k1l k2l k3l
        generalize ys.getD i 0 = y at *
        generalize (l.getD i (0, 0)).1 = c at *
        generalize (l.getD i (0, 0)).2 = s at *
        generalize ms.getD i [] = m at *
        obtain ⟨q, hq⟩ : ∃ q, p i = q := ⟨_, rfl⟩
        rw [hq] at HVi HS1
        rw [← HVi.out] at HMi HMj
        clear hq HVi
        obtain ⟨A0, hA0⟩ : ∃ A0, (false && (List.range i).all p) = A0 := ⟨_, rfl⟩
        rw [hA0] at HS1
        rw [hA0]
        clear hA0
        have eq : (q != q) = false := by simp
        have fky := cellF ky
        have fkm := cellF km
        have fk1 := cellF ks1
        have fk2 := cellF ks2
        have fc0 := cellF c0
        have fc1 := cellF c1
        have fc2 := cellF c2
        clear ky km ks1 ks2 c0 c1 c2
        go_wp2_with fail
        refine wp_region_up (by kernel_rfl) (by kernel_rfl) ?_
        repeat (go_big_quiet_step ((first
          | (go_at_call 39; exact Calls.up_of (HMj.out _ (HU.out.trans (UpFrom.up _)) (HMu.out.up (UpFrom.up _)))))))
        refine wpQuiet_nil ?_
        rintro w4 ⟨⟨_, hU4⟩, rfl⟩
        try dsimp only
        have HU4 := hid (HU.out.trans hU4)
        have HA4 := hid (HA.out.up hU4)
        have HM4 := hid (HMu.out.up hU4)
        have gky : w4.cell? ⟨by1, oy1 + i, none⟩ = some (.int .i64 y) := fky ⟨w4, hU4⟩
        have gkm : w4.cell? ⟨bm, om + i, none⟩ = some (.slice ua m.length uc) := fkm ⟨w4, hU4⟩
        have gk1 : w4.cell? ⟨bs, os + i * 2, none⟩ = some (.int .i64 c) := fk1 ⟨w4, hU4⟩
        have gk2 : w4.cell? ⟨bs, os + i * 2 + 1, none⟩ = some (.int .i64 s) := fk2 ⟨w4, hU4⟩
        obtain ⟨c0, c1, c2⟩ := HA4.out
        clear hU4 fky fkm fk1 fk2 fc0 fc1 fc2 HU HA HMu
        have fky := cellF gky
        have fkm := cellF gkm
        have fk1 := cellF gk1
        have fk2 := cellF gk2
        have fc0 := cellF c0
        have fc1 := cellF c1
        have fc2 := cellF c2
        clear gky gkm gk1 gk2 c0 c1 c2
        go_wp2_with fail
        refine wp_region_up (by kernel_rfl) (by kernel_rfl) ?_
        repeat (go_big_quiet_step ((first
          | (go_at_call 40; exact Calls.up_of (HMi.out _ (HU4.out.trans (UpFrom.up _)) (HM4.out.up (UpFrom.up _)))))))
        refine wpQuiet_nil ?_
        rintro w5 ⟨⟨_, hU5⟩, rfl⟩
        try dsimp only
        have HU5 := hid (HU4.out.trans hU5)
        have HA5 := hid (HA4.out.up hU5)
        clear hU5 fky fkm fk1 fk2 fc0 fc1 fc2 HU4 HA4 HM4
        cases A0
        · go_wp2_with fail
          go_roundw
          case rel => exact ⟨i + 1, by omega, by go_num, by rw [HS1.out]; rfl, HU5, HA5⟩
          case measure => simp [intOf]; omega
        · go_wp2_with fail
          go_roundw
          case rel => exact ⟨i + 1, by omega, by go_num, by rw [HS1.out]; rfl, HU5, HA5⟩
          case measure => simp [intOf]; omega
      · obtain rfl : i = mn := by omega
        rw [← HT2.out]
        have eT : (T == T) = true := by simp
        go_wp2_with fail
        refine (M4.out _ HU.out).mono ?_
        rintro e w6 ⟨rfl, hU6⟩
        go_wp2
        go_ret
        exact ⟨rfl, HU.out.trans hU6⟩
  have d2 : ((n1 : Int) == (n2 : Int)) = true := by simp; omega
  by_cases h3 : n1 = n3
  case neg =>
    have d3 : ((n1 : Int) == (n3 : Int)) = false := by simp; omega
    have hb : b0 = false := by rw [← hb0, show decide (n1 = n3) = false by simpa using h3]; simp
    subst hb
    clear h h3 hb0
    go_wp2_with fail
    go_loopw [9, 49] (fun va vi wr => ∃ i : Nat, i ≤ mn ∧ vi = .int .i64 i ∧ va = .bool (false && (List.range i).all p) ∧ Hid (Up w wr) ∧ Hid (GrpAt wr o P Q G)) (fun _ vi _ => mn - (intOf vi).toNat)
    case atStart => exact ⟨0, by omega, rfl, by simp, HU3, HA3⟩
    case round =>
      clear HU3 HA3 c0 c1 c2
      obtain ⟨i, hi, rfl, rfl, HU, HA⟩ := hrel
      obtain ⟨c0, c1, c2⟩ := HA.out
      by_cases hl : i < mn
      · have k1l : i < ys.length := by rw [HN1.out]; omega
        have k2l : i < ms.length := by rw [HN2.out]; omega
        have k3l : i < l.length := by rw [HN3.out]; omega
        have i1 : i < n1 := by omega
        have i2 : i < n2 := by omega
        have i3 : i < n3 := by omega
        obtain ⟨by1, oy1, rfl, ky⟩ := ints_cell HC1.out HU.out k1l
        obtain ⟨bm, om, u, rfl, km, hmu⟩ := brows_cell HR.out HU.out k2l
        obtain ⟨bs, os, rfl, ks1, ks2⟩ := sigs_cell HL.out HU.out k3l
        have HMu := hid hmu
        have HMi := hid (fun w' (hU : Up w w') (hu : SeqAt .u8 w' u (ms.getD i [])) => M2.out i k2l u w' hU hu)
        have HMj := hid (fun w' (hU : Up w w') (hu : SeqAt .u8 w' u (ms.getD i [])) => M3.out i k2l u w' hU hu)
        have HVi := hid (HO1.out i)
        obtain ⟨ua, uc, rfl, _, _⟩ := hmu.shape
        have HS1 : Hid ((false && (List.range (i + 1)).all p) = ((false && (List.range i).all p) && p i)) := hid (by rw [List.range_succ, List.all_append]; simp)
        clear hmu k1l k2l k3l
        generalize ys.getD i 0 = y at *
        generalize (l.getD i (0, 0)).1 = c at *
        generalize (l.getD i (0, 0)).2 = s at *
        generalize ms.getD i [] = m at *
        obtain ⟨q, hq⟩ : ∃ q, p i = q := ⟨_, rfl⟩
        rw [hq] at HVi HS1
        rw [← HVi.out] at HMi HMj
        clear hq HVi
        obtain ⟨A0, hA0⟩ : ∃ A0, (false && (List.range i).all p) = A0 := ⟨_, rfl⟩
        rw [hA0] at HS1
        rw [hA0]
        clear hA0
        have eq : (q != q) = false := by simp
        have fky := cellF ky
        have fkm := cellF km
        have fk1 := cellF ks1
        have fk2 := cellF ks2
        have fc0 := cellF c0
        have fc1 := cellF c1
        have fc2 := cellF c2
        clear ky km ks1 ks2 c0 c1 c2
        go_wp2_with fail
        refine wp_region_up (by kernel_rfl) (by kernel_rfl) ?_
        repeat (go_big_quiet_step ((first
          | (go_at_call 39; exact Calls.up_of (HMj.out _ (HU.out.trans (UpFrom.up _)) (HMu.out.up (UpFrom.up _)))))))
        refine wpQuiet_nil ?_
        rintro w4 ⟨⟨_, hU4⟩, rfl⟩
        try dsimp only
        have HU4 := hid (HU.out.trans hU4)
        have HA4 := hid (HA.out.up hU4)
        have HM4 := hid (HMu.out.up hU4)
        have gky : w4.cell? ⟨by1, oy1 + i, none⟩ = some (.int .i64 y) := fky ⟨w4, hU4⟩
        have gkm : w4.cell? ⟨bm, om + i, none⟩ = some (.slice ua m.length uc) := fkm ⟨w4, hU4⟩
        have gk1 : w4.cell? ⟨bs, os + i * 2, none⟩ = some (.int .i64 c) := fk1 ⟨w4, hU4⟩
        have gk2 : w4.cell? ⟨bs, os + i * 2 + 1, none⟩ = some (.int .i64 s) := fk2 ⟨w4, hU4⟩
        obtain ⟨c0, c1, c2⟩ := HA4.out
        clear hU4 fky fkm fk1 fk2 fc0 fc1 fc2 HU HA HMu
        have fky := cellF gky
        have fkm := cellF gkm
        have fk1 := cellF gk1
        have fk2 := cellF gk2
        have fc0 := cellF c0
        have fc1 := cellF c1
        have fc2 := cellF c2
        clear gky gkm gk1 gk2 c0 c1 c2
        go_wp2_with fail
        refine wp_region_up (by kernel_rfl) (by kernel_rfl) ?_
        repeat (go_big_quiet_step ((first
          | (go_at_call 40; exact Calls.up_of (HMi.out _ (HU4.out.trans (UpFrom.up _)) (HM4.out.up (UpFrom.up _)))))))
        refine wpQuiet_nil ?_
        rintro w5 ⟨⟨_, hU5⟩, rfl⟩
        try dsimp only
        have HU5 := hid (HU4.out.trans hU5)
        have HA5 := hid (HA4.out.up hU5)
        clear hU5 fky fkm fk1 fk2 fc0 fc1 fc2 HU4 HA4 HM4
        cases A0
        · go_wp2_with fail
          go_roundw
          case rel => exact ⟨i + 1, by omega, by go_num, by rw [HS1.out]; rfl, HU5, HA5⟩
          case measure => simp [intOf]; omega
        · go_wp2_with fail
          go_roundw
          case rel => exact ⟨i + 1, by omega, by go_num, by rw [HS1.out]; rfl, HU5, HA5⟩
          case measure => simp [intOf]; omega
      · obtain rfl : i = mn := by omega
        rw [← HT2.out]
        have eT : (T == T) = true := by simp
        go_wp2_with fail
        refine (M4.out _ HU.out).mono ?_
        rintro e w6 ⟨rfl, hU6⟩
        go_wp2
        go_ret
        exact ⟨rfl, HU.out.trans hU6⟩
  have d3 : ((n1 : Int) == (n3 : Int)) = true := by simp; omega
  have hb : b0 = true := by rw [← hb0, show decide (n1 = n2) = true by simpa using h, show decide (n1 = n3) = true by simpa using h3]; rfl
  subst hb
  clear h h3 hb0
  go_wp2_with fail
  go_loopw [9, 49] (fun va vi wr => ∃ i : Nat, i ≤ mn ∧ vi = .int .i64 i ∧ va = .bool (true && (List.range i).all p) ∧ Hid (Up w wr) ∧ Hid (GrpAt wr o P Q G)) (fun _ vi _ => mn - (intOf vi).toNat)
  case atStart => exact ⟨0, by omega, rfl, by simp, HU3, HA3⟩
  case round =>
    clear HU3 HA3 c0 c1 c2
    obtain ⟨i, hi, rfl, rfl, HU, HA⟩ := hrel
    obtain ⟨c0, c1, c2⟩ := HA.out
    by_cases hl : i < mn
    · have k1l : i < ys.length := by rw [HN1.out]; omega
      have k2l : i < ms.length := by rw [HN2.out]; omega
      have k3l : i < l.length := by rw [HN3.out]; omega
      have i1 : i < n1 := by omega
      have i2 : i < n2 := by omega
      have i3 : i < n3 := by omega
      obtain ⟨by1, oy1, rfl, ky⟩ := ints_cell HC1.out HU.out k1l
      obtain ⟨bm, om, u, rfl, km, hmu⟩ := brows_cell HR.out HU.out k2l
      obtain ⟨bs, os, rfl, ks1, ks2⟩ := sigs_cell HL.out HU.out k3l
      have HMu := hid hmu
      have HMi := hid (fun w' (hU : Up w w') (hu : SeqAt .u8 w' u (ms.getD i [])) => M2.out i k2l u w' hU hu)
      have HMj := hid (fun w' (hU : Up w w') (hu : SeqAt .u8 w' u (ms.getD i [])) => M3.out i k2l u w' hU hu)
      have HVi := hid (HO1.out i)
      obtain ⟨ua, uc, rfl, _, _⟩ := hmu.shape
      have HS1 : Hid ((true && (List.range (i + 1)).all p) = ((true && (List.range i).all p) && p i)) := hid (by rw [List.range_succ, List.all_append]; simp)
      clear hmu k1l k2l k3l
      generalize ys.getD i 0 = y at *
      generalize (l.getD i (0, 0)).1 = c at *
      generalize (l.getD i (0, 0)).2 = s at *
      generalize ms.getD i [] = m at *
      obtain ⟨q, hq⟩ : ∃ q, p i = q := ⟨_, rfl⟩
      rw [hq] at HVi HS1
      rw [← HVi.out] at HMi HMj
      clear hq HVi
      obtain ⟨A0, hA0⟩ : ∃ A0, (true && (List.range i).all p) = A0 := ⟨_, rfl⟩
      rw [hA0] at HS1
      rw [hA0]
      clear hA0
      have eq : (q != q) = false := by simp
      have fky := cellF ky
      have fkm := cellF km
      have fk1 := cellF ks1
      have fk2 := cellF ks2
      have fc0 := cellF c0
      have fc1 := cellF c1
      have fc2 := cellF c2
      clear ky km ks1 ks2 c0 c1 c2
      go_wp2_with fail
      refine wp_region_up (by kernel_rfl) (by kernel_rfl) ?_
      repeat (go_big_quiet_step ((first
        | (go_at_call 39; exact Calls.up_of (HMj.out _ (HU.out.trans (UpFrom.up _)) (HMu.out.up (UpFrom.up _)))))))
      refine wpQuiet_nil ?_
      rintro w4 ⟨⟨_, hU4⟩, rfl⟩
      try dsimp only
      have HU4 := hid (HU.out.trans hU4)
      have HA4 := hid (HA.out.up hU4)
      have HM4 := hid (HMu.out.up hU4)
      have gky : w4.cell? ⟨by1, oy1 + i, none⟩ = some (.int .i64 y) := fky ⟨w4, hU4⟩
      have gkm : w4.cell? ⟨bm, om + i, none⟩ = some (.slice ua m.length uc) := fkm ⟨w4, hU4⟩
      have gk1 : w4.cell? ⟨bs, os + i * 2, none⟩ = some (.int .i64 c) := fk1 ⟨w4, hU4⟩
      have gk2 : w4.cell? ⟨bs, os + i * 2 + 1, none⟩ = some (.int .i64 s) := fk2 ⟨w4, hU4⟩
      obtain ⟨c0, c1, c2⟩ := HA4.out
      clear hU4 fky fkm fk1 fk2 fc0 fc1 fc2 HU HA HMu
      have fky := cellF gky
      have fkm := cellF gkm
      have fk1 := cellF gk1
      have fk2 := cellF gk2
      have fc0 := cellF c0
      have fc1 := cellF c1
      have fc2 := cellF c2
      clear gky gkm gk1 gk2 c0 c1 c2
      go_wp2_with fail
      refine wp_region_up (by kernel_rfl) (by kernel_rfl) ?_
      repeat (go_big_quiet_step ((first
        | (go_at_call 40; exact Calls.up_of (HMi.out _ (HU4.out.trans (UpFrom.up _)) (HM4.out.up (UpFrom.up _)))))))
      refine wpQuiet_nil ?_
      rintro w5 ⟨⟨_, hU5⟩, rfl⟩
      try dsimp only
      have HU5 := hid (HU4.out.trans hU5)
      have HA5 := hid (HA4.out.up hU5)
      clear hU5 fky fkm fk1 fk2 fc0 fc1 fc2 HU4 HA4 HM4
      cases A0
      · go_wp2_with fail
        go_roundw
        case rel => exact ⟨i + 1, by omega, by go_num, by rw [HS1.out]; rfl, HU5, HA5⟩
        case measure => simp [intOf]; omega
      · go_wp2_with fail
        go_roundw
        case rel => exact ⟨i + 1, by omega, by go_num, by rw [HS1.out]; rfl, HU5, HA5⟩
        case measure => simp [intOf]; omega
    · obtain rfl : i = mn := by omega
      rw [← HT2.out]
      have eT : (T == T) = true := by simp
      go_wp2_with fail
      refine (M4.out _ HU.out).mono ?_
      rintro e w6 ⟨rfl, hU6⟩
      go_wp2
      go_ret
      exact ⟨rfl, HU.out.trans hU6⟩
end Go.Proofs.YtdlcmpbpdbpanaaGreatDoor
namespace Go.Proofs.YtdlcmpbpdbpanaaGreatDoor.lawSignatureVerifies
open Go.Proofs.YtdlcmpbpdbpanaaGreatDoor
theorem fact1 : (Rows.signatureVerifiesRow.wf (OpenSpec.ofChange (OpenSpec.ofChange Rows.signatureVerifiesSpec).bare) : Bool) = true := by kernel_rfl
theorem fact2 : (laidOutB Tryz.pinned.checked.prog : Bool) = true := by kernel_rfl
theorem fact3 : (mapsRowed Tryz.pinned.checked.prog : Bool) = true := by kernel_rfl
theorem fact4 : (Tryz.f7.params.all (Tryz.pinned.checked.prog.readableRec ·) : Bool) = true := by kernel_rfl
theorem fact5 : (namedTie Tryz.pinned.checked.prog Rows.signatureVerifiesRow.named (OpenSpec.ofChange Rows.signatureVerifiesSpec).bare.vars : Bool) = true := by kernel_rfl
theorem fact6 : ((Rows.signatureVerifiesRow.stops == []) : Bool) = true := by kernel_rfl
theorem fact7 : ((Tryz.pinned.checked.prog.stops == []) : Bool) = true := by kernel_rfl
theorem fact8 : ((Rows.signatureVerifiesRow.knobs == []) : Bool) = true := by kernel_rfl
theorem fact9 : ((Tryz.pinned.checked.prog.stopKnobs == []) : Bool) = true := by kernel_rfl
theorem fact10 : ((Rows.signatureVerifiesRow.inPlace == Tryz.pinned.checked.prog.inPlace 7) : Bool) = true := by kernel_rfl
theorem fact11 : ((Rows.signatureVerifiesRow.unfollowed == Tryz.pinned.checked.prog.unfollowed 7) : Bool) = true := by kernel_rfl
theorem fact12 : ((Rows.signatureVerifiesRow.recurses == Tryz.pinned.checked.prog.recurses 7) : Bool) = true := by kernel_rfl
theorem fact13 : ((Rows.signatureVerifiesRow.named == Tryz.pinned.checked.prog.varsNamed 7) : Bool) = true := by kernel_rfl
theorem fact14 : ((Rows.signatureVerifiesRow.maps == (Tryz.f7.params.toList ++ (OpenSpec.ofChange Rows.signatureVerifiesSpec).bare.plain.varTypes Tryz.pinned.checked.prog).any (Tryz.pinned.checked.prog.mapsRec ·)) : Bool) = true := by kernel_rfl
theorem fact15 : ((Rows.signatureVerifiesRow.ifaces == (Tryz.f7.params.toList ++ (OpenSpec.ofChange Rows.signatureVerifiesSpec).bare.plain.varTypes Tryz.pinned.checked.prog).any (Tryz.pinned.checked.prog.ifacesRec ·)) : Bool) = true := by kernel_rfl
theorem fact16 : ((Rows.signatureVerifiesRow.mapsOut == Tryz.pinned.checked.prog.mapsAmong Tryz.f7.resultTypes.toList) : Bool) = true := by kernel_rfl
theorem fact17 : ((Rows.signatureVerifiesRow.loops == (Tryz.f7.params.toList ++ (OpenSpec.ofChange Rows.signatureVerifiesSpec).bare.plain.varTypes Tryz.pinned.checked.prog).any (Tryz.pinned.checked.prog.loopsFrom ·)) : Bool) = true := by kernel_rfl
theorem fact18 : ((Rows.signatureVerifiesRow.wideKeys == (Tryz.f7.params.toList ++ (OpenSpec.ofChange Rows.signatureVerifiesSpec).bare.plain.varTypes Tryz.pinned.checked.prog ++ Tryz.f7.resultTypes.toList).any (Tryz.pinned.checked.prog.wideKeysFrom ·)) : Bool) = true := by kernel_rfl
theorem fact19 : ((OpenSpec.ofChange Rows.signatureVerifiesSpec).bare.vars.all (Tryz.pinned.checked.prog.varReadable ·) : Bool) = true := by kernel_rfl
theorem fact20 : (Tryz.f7.resultTypes.all (fun t => Tryz.pinned.checked.prog.readableRec t && decide (t < Tryz.pinned.checked.prog.types.size)) : Bool) = true := by kernel_rfl
theorem fact21 : ((Rows.signatureVerifiesRow.ifacesOut == Tryz.f7.resultTypes.toList.any (Tryz.pinned.checked.prog.ifacesRec ·)) : Bool) = true := by kernel_rfl
theorem fact22 : ((Rows.signatureVerifiesRow.loopsOut == Tryz.f7.resultTypes.toList.any (Tryz.pinned.checked.prog.loopsFrom ·)) : Bool) = true := by kernel_rfl
theorem fact23 : ((Rows.signatureVerifiesRow.plainKeys == Tryz.pinned.checked.prog.plainKeys) : Bool) = true := by kernel_rfl
theorem fact24 : (Rows.signatureVerifiesRow.shortTexts.isNone : Bool) = true := by kernel_rfl
theorem fact25 : (Tryz.pinned.checked.prog.stopsHeard : Bool) = true := by kernel_rfl
theorem fact26 : (Tryz.pinned.checked.prog.mayEnter : Bool) = true := by kernel_rfl
theorem fact27 : ((Rows.signatureVerifiesRow.lifted == Tryz.pinned.checked.prog.liftsFinal) : Bool) = true := by kernel_rfl
theorem fact28 : ((Tryz.pinned.checked.prog.make == some Rows.signatureVerifiesRow.make) : Bool) = true := by kernel_rfl
theorem fact29 : ((Rows.signatureVerifiesRow.kinds == (if Rows.signatureVerifiesRow.domain.isEmpty then [] else Tryz.f7.params.toList.map fun t => match Tryz.pinned.checked.prog.underlying t with | some (.int k) => some k | _ => none)) : Bool) = true := by kernel_rfl
theorem fact30 : ((Rows.signatureVerifiesRow.pinned == Rows.signatureVerifiesRow.pinnedBy) : Bool) = true := by kernel_rfl
theorem fact31 : ((Rows.signatureVerifiesRow.veiled == (Tryz.f7.params.toList ++ (OpenSpec.ofChange Rows.signatureVerifiesSpec).bare.plain.varTypes Tryz.pinned.checked.prog ++ Tryz.f7.resultTypes.toList).any (Tryz.pinned.checked.prog.veiledRec ·)) : Bool) = true := by kernel_rfl
theorem fact32 : (Rows.signatureVerifiesRow.veiledFits Tryz.pinned.checked.prog Tryz.f7.params.toList (Tryz.f7.params.toList ++ (OpenSpec.ofChange Rows.signatureVerifiesSpec).bare.plain.varTypes Tryz.pinned.checked.prog ++ Tryz.f7.resultTypes.toList) : Bool) = true := by kernel_rfl
theorem andB {a b : Bool} (h : a = true) (k : b = true) : (a && b) = true := by rw [h, k]; rfl
set_option maxRecDepth 100000 in
theorem closed : joinedFacts Tryz.pinned.checked.prog 7 Tryz.f7 (OpenSpec.ofChange Rows.signatureVerifiesSpec).bare Rows.signatureVerifiesRow = true := by
  unfold joinedFacts
  exact (andB (andB (andB (andB (andB (andB (andB (andB (andB (andB (andB (andB (andB (andB (andB (andB (andB (andB (andB (andB (andB (andB (andB (andB (andB (andB (andB (andB (andB (andB (andB fact1 fact2) fact3) fact4) fact5) fact6) fact7) fact8) fact9) fact10) fact11) fact12) fact13) fact14) fact15) fact16) fact17) fact18) fact19) fact20) fact21) fact22) fact23) fact24) fact25) fact26) fact27) fact28) fact29) fact30) fact31) fact32)
end Go.Proofs.YtdlcmpbpdbpanaaGreatDoor.lawSignatureVerifies
namespace Go.Proofs.YtdlcmpbpdbpanaaGreatDoor.lawSignatureVerifies
open Go.Proofs.YtdlcmpbpdbpanaaGreatDoor Go.ChangeShapes Go.WideShapes Go.ChangeAt Go.RowKit Go.Sp

set_option maxRecDepth 100000 in
theorem contract (H : Type) (enc : TypeId × Value → H) (W : World) (base : Nat) (args : Array Value) (ds gs : List (DataW H)) (before : List MemPlace)
    (hval : ∀ (j : Nat) t v, Tryz.f7.params[j]? = some t → args[j]? = some v → Value.okWide Tryz.prog W .any base t v)
    (hW : DataW.Whole enc Tryz.prog Tryz.f7.params.toList Rows.signatureVerifiesSpec.vars false W args.toList ds gs before) (hL : laidMetH Tryz.prog Rows.signatureVerifiesRow.laid W) :
    Calls Tryz.prog 7 args W fun e W' => ∃ v, e = .returned v ∧ Rows.signatureVerifiesSpec.post enc Tryz.prog Tryz.f7 false true false false W args v W' := by
  have hT := tab_of_four hL
  have hS := tabS_of_four hL
  have hW' := hW
  obtain ⟨p, q, hA0, hV, rfl, hfz, hnd⟩ := hW
  have hA : DataW.TrodAll enc Tryz.prog W 0 (fun _ => true) true Tryz.f7.params.toList args.toList ds p := hA0
  rw [Tryz.params7] at hA hval
  obtain ⟨v0, vs0, d0, ds0, p0, q0, hargs, rfl, rfl, h0, r0⟩ := trodAll_cons hA
  obtain ⟨v1, vs1, d1, ds1, p1, q1, rfl, rfl, rfl, h1, r1⟩ := trodAll_cons r0
  obtain ⟨v2, vs2, d2, ds2, p2, q2, rfl, rfl, rfl, h2, r2⟩ := trodAll_cons r1
  obtain ⟨v3, vs3, d3, ds3, p3, q3, rfl, rfl, rfl, h3, r3⟩ := trodAll_cons r2
  obtain ⟨rfl, rfl, rfl⟩ := trodAll_nil r3
  obtain rfl : args = #[v0, v1, v2, v3] := by cases args; simp_all
  obtain ⟨rfl, rfl⟩ := trodVars_none hV
  obtain ⟨P0, Q0, G0, rfl, bP0, bQ0, bG0⟩ := open_grp (hval 0 23 v0 rfl rfl) h0
  obtain ⟨xs1, hs1, bs1, rm1⟩ := open_intslice (hval 1 62 v1 rfl rfl) h1
  obtain ⟨xs2, hs2, bs2⟩ := open_brows (hval 2 63 v2 rfl rfl) h2
  obtain ⟨xs3, hs3⟩ := open_sigs (hval 3 64 v3 rfl rfl) h3
  refine (SignatureVerifies_walk P0 Q0 G0 v1 v2 v3 xs1 xs2 xs3 W bP0.1 bQ0.2 hT hS hs1 hs2 hs3 bs2).mono fun e W' ⟨he, hU⟩ => ?_
  exact ⟨_, he, law_shut Tryz.underlying4 (by kernel_rfl) rfl rfl laidOut (by kernel_rfl) hW' hU⟩

theorem laid_met (os : Os) : laidMet Tryz.prog Rows.signatureVerifiesRow.laid ((World.laidAll Tryz.prog os laidFour).forCall (fun _ _ => 0) ⟨#[], #[.agg #[.int .i64 0, .int .i64 0, .int .i64 0], .slice none 0 0, .slice none 0 0, .slice none 0 0], []⟩).memory :=
  laidMet_laidAll _ (by kernel_rfl) (by kernel_rfl)
theorem reads (os : Os) {H : Type} (enc : TypeId × Value → H) : ∃ places, DataW.whole enc Tryz.prog ((World.laidAll Tryz.prog os laidFour).forCall (fun _ _ => 0) ⟨#[], #[.agg #[.int .i64 0, .int .i64 0, .int .i64 0], .slice none 0 0, .slice none 0 0, .slice none 0 0], []⟩).memory Tryz.f7.params.toList Rows.signatureVerifiesSpec.vars false (#[.agg #[.int .i64 0, .int .i64 0, .int .i64 0], .slice none 0 0, .slice none 0 0, .slice none 0 0] : Array Value).toList 8 = some ([.agg [.lit (.int .i64 0), .lit (.int .i64 0), .lit (.int .i64 0)], .nil, .nil, .nil], [], places) :=
  ⟨[], by kernel_rfl⟩

set_option maxRecDepth 100000 in
theorem lifted (os : Os) (started : os.Started) (H : Type) (enc : TypeId × Value → H) (F : Stop.Interp) :
    ReturnsInHanded {} Tryz.checked os 7 .any ((OpenSpec.ofChange Rows.signatureVerifiesSpec).preRow enc Tryz.prog Tryz.f7 Rows.signatureVerifiesRow.domain false Rows.signatureVerifiesRow.laid) (((OpenSpec.ofChange Rows.signatureVerifiesSpec).at F).post enc Tryz.prog Tryz.f7 false true false false) := by
  obtain ⟨places, hx⟩ := reads os enc
  refine returnsInHanded_of_row (C := Tryz.checked) (s := OpenSpec.ofChange Rows.signatureVerifiesSpec) own started (by kernel_rfl) Tryz.func7
    (witness_row_at (enc := enc) (C := Tryz.checked) false (World.laidAll Tryz.prog os laidFour) #[.agg #[.int .i64 0, .int .i64 0, .int .i64 0], .slice none 0 0, .slice none 0 0, .slice none 0 0] (World.laidAll_os _ _ _) (by kernel_rfl) (by kernel_rfl) (by kernel_rfl)
      (OpenSpec.preRow_of_cond 8 hx (by kernel_rfl) (fun k hk => by cases hk) (by kernel_rfl) (laid_met os))) ?_
  intro W base args ds gs before hval hW _ _ _ hL _ _
  exact contract H enc W base args ds gs before hval hW hL

theorem said : Rows.SignatureVerifiesSaid :=
  OpenClaim.holds_of_cond 7 Tryz.f7 rfl rfl rfl rfl rfl rfl rfl ⟨rfl, rfl, rfl, rfl, rfl⟩ rfl rfl rfl rfl rfl (by kernel_rfl) Tryz.func7 closed
    (of_decide_eq_true (by kernel_rfl)) (by unfold Func.isWrapper; first | (rw [if_pos (by decide +kernel)]; kernel_rfl) | (rw [if_neg (by decide +kernel)]; exact ⟨rfl, rfl⟩))
    (fun os started H enc _ F => by rw [OpenClaim.pre_eq_preRow]; exact lifted os started H enc F)

theorem plain (f : FuncId) (fn : Func) (hf : Tryz.pinned.checked.prog.funcNamed "specie/specielaw22.SignatureVerifies" = some f) (hfn : Tryz.pinned.checked.prog.funcs[f]? = some fn) :
    false = Tryz.pinned.checked.prog.looks [] ∧ ∀ (j : Nat) t, fn.params[j]? = some t → Tryz.pinned.checked.prog.wantsStandIn t = false := by
  obtain rfl : f = 7 := Option.some.inj ((show Tryz.prog.funcNamed "specie/specielaw22.SignatureVerifies" = some 7 by kernel_rfl).symm.trans hf) |>.symm
  obtain rfl : fn = Tryz.f7 := (Option.some.inj (Tryz.func7.symm.trans hfn)).symm
  refine ⟨by kernel_rfl, fun j t ht => ?_⟩
  have hall : Tryz.f7.params.toList.all (fun t => !Tryz.prog.wantsStandIn t) = true := by kernel_rfl
  have := List.all_eq_true.1 hall t (by rw [← Array.mem_toList_iff.symm]; exact Array.mem_of_getElem? ht)
  exact (by simpa using this : Tryz.prog.wantsStandIn t = false)

/-- The card. -/
theorem card : Rows.SignatureVerifiesCardSaid :=
  Claim7.holds_tied_plain_at .later [] _ _ _ _ said (fun _ h => by cases h) (by kernel_rfl) (fun _ h => by cases h) signatureVerifies_row_tie rfl ⟨rfl, rfl⟩ (by kernel_rfl) rfl plain (by kernel_rfl)
end Go.Proofs.YtdlcmpbpdbpanaaGreatDoor.lawSignatureVerifies
