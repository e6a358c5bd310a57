/- Package signature: Sign. Package epoch: Sign. One number of one record of a list, changed. Package epoch: Make, at the example of the chapter. The examples of layer 30. -/
import Derived.Test.YtkimojconidhlaaDoorMB23
import Derived.Test.YtkimojconidhlaaDoorMB14
import Derived.Test.YtkimojconidhlaaDoorMB17
import Derived.Test.YtkimojconidhlaaDoorMB18
import Derived.Test.YtkimojconidhlaaDoorMB15
import Derived.Test.YtkimojconidhlaaDoorMB20
namespace Go.Proofs.YtkimojconidhlaaDoor
open Go.RowKit Go.Sp
set_option maxHeartbeats 4000000
set_option maxRecDepth 20000

theorem results_row_row_tmp {P : Program} {fn : Func} {p q u : Tmp} {ty ty2 : TypeId} (h : fn.results = #[.cell p ty, .cell q ty2, .tmp u]) (tmps : Array Value) (w : World) (g g2 : Nat) (t t2 : TypeId) (cs cs2 : Array Value) (fr fr2 : Nat × Nat) (d d2 : TypeDesc)
    (hp : tmps.getD p undef = .pointer (some ⟨g, 0, none⟩)) (hg : w.heap[g]? = some (.cells cs t fr)) (hu : P.underlying ty = some d) (hd : (match d with | .struct _ | .array _ _ => true | _ => false) = true) (hi : (P.info? ty).map (·.size) = some cs.size)
    (hq : tmps.getD q undef = .pointer (some ⟨g2, 0, none⟩)) (hg2 : w.heap[g2]? = some (.cells cs2 t2 fr2)) (hu2 : P.underlying ty2 = some d2) (hd2 : (match d2 with | .struct _ | .array _ _ => true | _ => false) = true) (hi2 : (P.info? ty2).map (·.size) = some cs2.size) :
    (results fn tmps).run P w = .ok (.tuple #[.agg cs, .agg cs2, tmps.getD u undef]) w := by
  have hp' : tmps[p]?.getD undef = .pointer (some ⟨g, 0, none⟩) := by simpa using hp
  have hq' : tmps[q]?.getD undef = .pointer (some ⟨g2, 0, none⟩) := by simpa using hq
  simp only [results, h]
  simp [Result.andThen, hp', hq', asAddr, run_loadVar_row w g t ty cs fr d hg hu hd hi, run_loadVar_row w g2 t2 ty2 cs2 fr2 d2 hg2 hu2 hd2 hi2]

theorem op_builtS {P : Program} {o : Oper} {a : Act} {w : World} {K : Act → World → Prop} {Q : Exit → Act → World → Prop} (t : TypeId) (parts : Array (Nat × Operand)) (ho : o.op = .build t parts)
    (d : Option Tmp) (hd : o.dst = d) (cells : Array Value) (hf : P.built t (parts.map fun (i, x) => (i, a.eval x)).toList = some cells) (h : K (a.put d (.agg cells)) w) : o.wp P a w K Q := by
  subst hd
  refine wp_build t parts ho (by rw [hf]; rfl) ?_
  rw [hf]
  exact h

theorem sizeSig (a b : Int) : (Tryd.prog.info? 33).map (·.size) = some (#[Value.int .i64 a, Value.int .i64 b]).size := by kernel_rfl

theorem sigFail_any (E : Int) (w : World) : Calls Tryd.prog 41 #[.int .i64 E] w fun e w' => e = .returned (.tuple #[.agg #[.int .i64 0, .int .i64 0], .agg (drwA zeroH 0), .int .i64 E]) ∧ Up w w' := by
  go_enter Tryd.func41, Tryd.ntmps41
  have hB0 := (Blk.new (w := w) (g := w.heap.size) (t := 33) (cs := #[.int .i64 0, .int .i64 0]) rfl rfl).alloc (.cells #[.int .u8 0, .int .u8 0, .int .u8 0, .int .u8 0, .int .u8 0, .int .u8 0, .int .u8 0, .int .u8 0, .int .u8 0, .int .u8 0, .int .u8 0, .int .u8 0, .int .u8 0, .int .u8 0, .int .u8 0, .int .u8 0, .int .u8 0, .int .u8 0, .int .u8 0, .int .u8 0, .int .u8 0, .int .u8 0, .int .u8 0, .int .u8 0, .int .u8 0, .int .u8 0, .int .u8 0, .int .u8 0, .int .u8 0, .int .u8 0, .int .u8 0, .int .u8 0, .int .i64 0] 30)
  have hB1 := Blk.new (w := w.alloc (.cells #[.int .i64 0, .int .i64 0] 33)) (t := 30) (g := w.heap.size + 1) (by simp) zero33
  have hU0 := (((Up.refl w).alloc (.cells #[.int .i64 0, .int .i64 0] 33)).alloc (.cells #[.int .u8 0, .int .u8 0, .int .u8 0, .int .u8 0, .int .u8 0, .int .u8 0, .int .u8 0, .int .u8 0, .int .u8 0, .int .u8 0, .int .u8 0, .int .u8 0, .int .u8 0, .int .u8 0, .int .u8 0, .int .u8 0, .int .u8 0, .int .u8 0, .int .u8 0, .int .u8 0, .int .u8 0, .int .u8 0, .int .u8 0, .int .u8 0, .int .u8 0, .int .u8 0, .int .u8 0, .int .u8 0, .int .u8 0, .int .u8 0, .int .u8 0, .int .u8 0, .int .i64 0] 30))
  go_wp2_with (first
    | (refine wpList_store_rowTo rfl 33 _ _ rfl rfl w.heap.size #[.int .i64 0, .int .i64 0] rfl rfl 33 #[.int .i64 0, .int .i64 0] hB0 (sizeSig 0 0) rfl (by first | kernel_rfl | simp [Value.oneCell']) ?_)
    | (refine wpList_store_rowTo rfl 30 _ _ rfl rfl (w.heap.size + 1) (drwA zeroH 0) rfl (congrArg Value.agg zero33) 30 (drwA zeroH 0) (hB1.rowApart (show w.heap.size + 1 ≠ w.heap.size by omega) _) (sizeDrw _ _) rfl (drwA_one _ _) ?_))
  refine bodyPost_ret (results_row_row_tmp Tryd.results41 _ _ w.heap.size (w.heap.size + 1) 33 30 _ _ (0, 0) (0, 0) _ _ (by rfl) ((hB0.row _).rowApart (by omega) _) Tryd.underlying33 rfl (sizeSig 0 0) (by rfl) ((hB1.rowApart (by omega) _).row _) Tryd.underlying30 rfl (sizeDrw _ _)) rfl ⟨rfl, (hU0.setRow (Nat.le_refl _) _).setRow (by omega) _⟩

theorem nxt_cases {h : Nat → Int} {c Q : Int} (hd : dvB c = true) (q0 : 1 ≤ Q) (q1 : Q < 2305843009213693952) : ∃ D n f, nxtV h c Q = .tuple #[.agg D, .int .i64 n, .int .i64 f] ∧ D.size = 33 ∧ D.all (·.oneCell') = true ∧ (f = 0 → 0 ≤ n ∧ n < Q) := by
  have hk : chkE c Q 1 2305843009213693951 = 0 := chk_iff.2 ⟨dvB_iff.1 hd, q0, by omega⟩
  rw [nxtV, if_pos hk]
  have hn := numT_in (h := h) (q := Q) q0 256 c 0
  generalize numT h Q 256 c 0 = t at *
  obtain ⟨n, c', F⟩ := t
  cases F
  · exact ⟨drwA h c', n, 0, rfl, drwA_size _ _, drwA_one _ _, fun _ => hn rfl⟩
  · exact ⟨drwA zeroH 0, n, 5, rfl, drwA_size _ _, drwA_one _ _, fun h => by cases h⟩

def SgnOut (P Q G x : Int) (m : List Int) (w : World) (e : Ending) (w' : World) : Prop :=
  (∃ C S D E, e = .returned (.tuple #[.agg #[.int .i64 C, .int .i64 S], .agg D, .int .i64 E]) ∧ D.size = 33 ∧ D.all (·.oneCell') = true ∧ (E = 0 → exB Q C = true ∧ exB Q S = true ∧ verS P Q G (pwi P G x) m C S = true) ∧ (E ≠ 0 → C = 0 ∧ S = 0)) ∧ Up w w'

theorem sigSign_ok (P Q G x c : Int) (h : Nat → Int) (v : Value) (m : List Int) (w : World) (hP : -9223372036854775808 ≤ P) (hQ : Q ≤ 9223372036854775807) (hT : Tab w) (hS : TabS w) (hg : gvB P Q G = true) (hx : exB Q x = true) (hB : Byt h) (hv : SeqAt .u8 w v m) (hm : ∀ x ∈ m, 0 ≤ x ∧ x ≤ 255) (hl : m.length ≤ 16384) :
    Calls Tryd.prog 21 #[grp P Q G, .int .i64 x, v, drw h c] w (SgnOut P Q G x m w) := by
  have g := gv_iff.1 hg
  have g1 := g.P61
  have g2 := g.P4
  have g3 := g.Q3
  have g4 := g.QP
  have hG := sgen_el hg
  have M1 := hid (fun w' (hU : Up w w') => Valid_any P Q G w' hP hQ (hT.up hU))
  rw [hg] at M1
  have M2 := hid (fun w' => draValid_any h c w')
  have M3 := hid (fun w' => sigScalar_any P Q G x w')
  rw [hx] at M3
  have M4 := hid (fun w' (hU : Up w w') => Next_any h c Q w' (hS.up hU) hB)
  have HN := hid (fun hd => nxt_cases (h := h) (c := c) (Q := Q) hd (by omega) (by omega))
  have M5 := hid (fun (n : Int) (n0 : 0 ≤ n) (n1 : n < Q) w' (hU : Up w w') => gpw_sc (P := P) (a := G) n0 n1 ▸ gPower_ok P Q G G n w' hQ (hT.up hU) hg hG (by omega) (by omega))
  have M7 := hid (fun (n : Int) (n0 : 0 ≤ n) (n1 : n < Q) w' (hU : Up w w') => sigChallenge_ok P Q G (pwi P G n) (pwi P G x) v m w' (hT.up hU) (hS.up hU) hg (el_pw (by omega) (by omega) hG _) (el_pw (by omega) (by omega) hG _) (hv.up hU) hl hm)
  have HR := hid (fun (n : Int) => sigC_range P G (pwi P G n) (pwi P G x) m (Q := Q) (by omega))
  have HH := hid (fun (n k : Int) (hn : exB Q n = true) => honest_fits (P := P) (Q := Q) (G := G) (x := x) (k := n) (c := k) hg hx hn)
  have HGv := hid hg
  have HX := hid hx
  have HGe := hid hG
  have HLe := hid hl
  obtain ⟨x0, x1⟩ := exB_iff.1 hx
  obtain ⟨va, vc, rfl, _, _⟩ := hv.shape
  obtain ⟨nl, hnl⟩ : ∃ n, m.length = n := ⟨_, rfl⟩
  have HNL := hid hnl
  rw [hnl] at M7 hl ⊢
  have dl : decide ((nl : Int) > 16384) = false := by simp; omega
  obtain ⟨B, hBv⟩ : ∃ B, dvB c = B := ⟨_, rfl⟩
  rw [hBv] at M2 HN
  obtain ⟨o, ho⟩ : ∃ o, w.heap.size = o := ⟨_, rfl⟩
  have HO := hid ho
  obtain ⟨o1, ho1⟩ : ∃ o1, o + 1 = o1 := ⟨_, rfl⟩
  have HO1 := hid ho1
  obtain ⟨o2, ho2⟩ : ∃ o2, o1 + 1 = o2 := ⟨_, rfl⟩
  have HO2 := hid ho2
  obtain ⟨o3, ho3⟩ : ∃ o3, o2 + 1 = o3 := ⟨_, rfl⟩
  have HO3 := hid ho3
  have hl2 : w.heap.size ≤ o2 := by omega
  have hl3 : w.heap.size ≤ o3 := by omega
  have hl1 : w.heap.size ≤ o1 := by omega
  have n12 : o1 < o2 := by omega
  have n23 : o2 < o3 := by omega
  have n01 : o < o1 := by omega
  have HSz := hid (sizeDrw h c)
  have HS1 := hid (drwA_size h c)
  have HS2 := hid (drwA_one h c)
  unfold drw at M2 M4 ⊢
  generalize drwA h c = D0 at *
  clear hT hS hg hx hB hv hm hnl hl ho ho1 ho2 ho3 g hG hBv
  go_enter Tryd.func21, Tryd.ntmps21
  go_wp2_with fail
  refine (M1.out _ (((((Up.refl w).alloc _).alloc _).alloc _).alloc _)).mono ?_
  rintro e w1 ⟨rfl, hU1⟩
  have HA1 := hid (((nums_three (w := w) (t := 23) HO.out).up ((((Up.refl _).alloc _).alloc _).alloc _)).up hU1)
  have HD1 := hid ((((Blk.new (g := o1) (t := 30) (cs := D0) (by have := HO.out; have := HO1.out; have := HO2.out; have := HO3.out; simp; omega) rfl).up (((Up.refl _).alloc _).alloc _))).up hU1)
  have HZ1 := hid ((((Blk.new (g := o2) (t := 33) (cs := #[.int .i64 0, .int .i64 0]) (by have := HO.out; have := HO1.out; have := HO2.out; have := HO3.out; simp; omega) rfl).up ((Up.refl _).alloc _))).up hU1)
  have HY1 := hid (((Blk.new (g := o3) (t := 30) (by have := HO.out; have := HO1.out; have := HO2.out; have := HO3.out; simp; omega) zero33)).up hU1)
  have HU1 := hid ((((((Up.refl w).alloc _).alloc _).alloc _).alloc _).trans hU1)
  clear hU1
  rw [HO.out, HO1.out, HO2.out, HO3.out]
  obtain ⟨c0, c1, c2⟩ := HA1.out
  go_wp2_with (first | (refine wpList_load_row rfl 30 _ rfl o1 rfl 30 D0 (0, 0) _ HD1.out Tryd.underlying30 rfl HSz.out ?_) | (refine wpList_load_rowG (by rfl) 30 _ rfl o1 rfl 30 D0 (0, 0) _ HD1.out Tryd.underlying30 rfl HSz.out ?_))
  refine (M2.out _).mono ?_
  rintro e w2 ⟨rfl, hU2⟩
  have HA2 := hid (HA1.out.up hU2)
  have HD2 := hid (HD1.out.up hU2)
  have HZ2 := hid (HZ1.out.up hU2)
  have HY2 := hid (HY1.out.up hU2)
  have HU2 := hid (HU1.out.trans hU2)
  clear hU2 HA1 HD1 HZ1 HY1 HU1 c0 c1 c2
  obtain ⟨c0, c1, c2⟩ := HA2.out
  cases B
  case false =>
    go_wp2_with fail
    refine (sigFail_any 1 _).mono ?_
    rintro e w' ⟨rfl, hU'⟩
    have hz := HZ2.out.up hU'
    have hy := HY2.out.up hU'
    have hu := HU2.out.trans hU'
    go_wp2_with (first
      | (refine wpList_store_rowTo rfl 33 _ _ rfl rfl o2 #[.int .i64 0, .int .i64 0] rfl rfl 33 #[.int .i64 0, .int .i64 0] hz (sizeSig 0 0) rfl (by first | kernel_rfl | simp [Value.oneCell']) ?_)
      | (refine wpList_store_rowTo rfl 30 _ _ rfl rfl o3 (drwA zeroH 0) rfl rfl 30 (drwA zeroH 0) (hy.rowApart (show o3 ≠ o2 by omega) _) (sizeDrw _ _) rfl (drwA_one _ _) ?_))
    refine bodyPost_ret (results_row_row_tmp Tryd.results21 _ _ o2 o3 33 30 _ _ (0, 0) (0, 0) _ _ (by rfl) ((hz.row _).rowApart (show o2 ≠ o3 by omega) _) Tryd.underlying33 rfl (sizeSig 0 0) (by rfl) ((hy.rowApart (show o3 ≠ o2 by omega) _).row _) Tryd.underlying30 rfl (sizeDrw _ _)) rfl ⟨⟨0, 0, _, 1, rfl, drwA_size _ _, drwA_one _ _, fun h => absurd h (by decide), fun _ => ⟨rfl, rfl⟩⟩, (hu.setRow hl2 _).setRow hl3 _⟩
  go_wp2_with fail
  refine (M3.out _).mono ?_
  rintro e w3 ⟨rfl, hU3⟩
  have HA3 := hid (HA2.out.up hU3)
  have HD3 := hid (HD2.out.up hU3)
  have HZ3 := hid (HZ2.out.up hU3)
  have HY3 := hid (HY2.out.up hU3)
  have HU3 := hid (HU2.out.trans hU3)
  clear hU3 HA2 HD2 HZ2 HY2 HU2 c0 c1 c2
  obtain ⟨c0, c1, c2⟩ := HA3.out
  go_wp2_with (first | (refine wpList_load_row rfl 30 _ rfl o1 rfl 30 D0 (0, 0) _ HD3.out Tryd.underlying30 rfl HSz.out ?_) | (refine wpList_load_rowG (by rfl) 30 _ rfl o1 rfl 30 D0 (0, 0) _ HD3.out Tryd.underlying30 rfl HSz.out ?_))
  obtain ⟨D, n, f, hV, hD1, hD2, hf⟩ := HN.out trivial
  rw [hV] at M4
  clear hV
  refine (M4.out _ (HU3.out)).mono ?_
  rintro e w4 ⟨rfl, hU4⟩
  have HA4 := hid (HA3.out.up hU4)
  have HD4 := hid (HD3.out.up hU4)
  have HZ4 := hid (HZ3.out.up hU4)
  have HY4 := hid (HY3.out.up hU4)
  have HU4 := hid (HU3.out.trans hU4)
  clear hU4 HA3 HD3 HZ3 HY3 HU3 c0 c1 c2
  obtain ⟨c0, c1, c2⟩ := HA4.out
  have hD3 : (Tryd.prog.info? 30).map (·.size) = some D.size := by rw [hD1]; kernel_rfl
  have HA5 : Hid (GrpAt (w4.setRow o1 D) o P Q G) := hid (grp_row HA4.out (show o ≠ o1 by omega))
  have HD5 := hid (HD4.out.row D)
  have HZ5 := hid (HZ4.out.rowApart (show o2 ≠ o1 by omega) D)
  have HY5 := hid (HY4.out.rowApart (show o3 ≠ o1 by omega) D)
  have HU5 := hid (HU4.out.setRow hl1 D)
  clear c0 c1 c2
  by_cases h0 : f = 0
  case neg =>
    have d : (f != 0) = true := by simpa using h0
    go_wp2_with (refine wpList_store_rowTo rfl 30 _ _ rfl rfl o1 D rfl rfl 30 D0 HD4.out hD3 (by rw [HS1.out, hD1]) hD2 ?_)
    generalize w4.setRow o1 D = w5 at *
    refine (sigFail_any f _).mono ?_
    rintro e w' ⟨rfl, hU'⟩
    have hz := HZ5.out.up hU'
    have hy := HY5.out.up hU'
    have hu := HU5.out.trans hU'
    go_wp2_with (first
      | (refine wpList_store_rowTo rfl 33 _ _ rfl rfl o2 #[.int .i64 0, .int .i64 0] rfl rfl 33 #[.int .i64 0, .int .i64 0] hz (sizeSig 0 0) rfl (by first | kernel_rfl | simp [Value.oneCell']) ?_)
      | (refine wpList_store_rowTo rfl 30 _ _ rfl rfl o3 (drwA zeroH 0) rfl rfl 30 (drwA zeroH 0) (hy.rowApart (show o3 ≠ o2 by omega) _) (sizeDrw _ _) rfl (drwA_one _ _) ?_))
    refine bodyPost_ret (results_row_row_tmp Tryd.results21 _ _ o2 o3 33 30 _ _ (0, 0) (0, 0) _ _ (by rfl) ((hz.row _).rowApart (show o2 ≠ o3 by omega) _) Tryd.underlying33 rfl (sizeSig 0 0) (by rfl) ((hy.rowApart (show o3 ≠ o2 by omega) _).row _) Tryd.underlying30 rfl (sizeDrw _ _)) rfl ⟨⟨0, 0, _, f, rfl, drwA_size _ _, drwA_one _ _, fun h => absurd h h0, fun _ => ⟨rfl, rfl⟩⟩, (hu.setRow hl2 _).setRow hl3 _⟩
  obtain ⟨n0, n1⟩ := hf h0
  subst h0
  have M5n := hid (M5.out n n0 n1)
  have M6 := hid (M5.out x x0 x1)
  have M7n := hid (M7.out n n0 n1)
  obtain ⟨r0, r1⟩ := HR.out n
  have HHn := hid (HH.out n (sigC P Q G (pwi P G n) (pwi P G x) m) (exB_iff.2 ⟨n0, n1⟩))
  obtain ⟨k, hk⟩ : ∃ k, sigC P Q G (pwi P G n) (pwi P G x) m = k := ⟨_, rfl⟩
  rw [hk] at M7n r0 r1 HHn
  have HK := hid hk
  have M8 := hid (fun w' => Mul_ok k x Q w' r0 r1 x0 x1 (by omega))
  have z0 := Int.emod_nonneg (k * x) (show Q ≠ 0 by omega)
  have z1 := Int.emod_lt_of_pos (k * x) (show 0 < Q by omega)
  have M9 := hid (fun w' => Add_ok n (k * x % Q) Q w' n0 n1 z0 z1 (by omega))
  have HC : Hid (exB Q k = true) := hid (exB_iff.2 ⟨r0, r1⟩)
  have HSs : Hid (exB Q ((n + k * x % Q) % Q) = true) := hid (exB_iff.2 ⟨Int.emod_nonneg _ (by omega), Int.emod_lt_of_pos _ (by omega)⟩)
  have HVs : Hid (verS P Q G (pwi P G x) m k ((n + k * x % Q) % Q) = true) := hid (by
    have hy : elB P Q (pwi P G x) = true := el_pw (by omega) (by omega) HGe.out _
    have hE : frgE P Q G (pwi P G x) k ((n + k * x % Q) % Q) = 0 := by unfold frgE errE; rw [HGv.out, hy, HC.out, HSs.out]; rfl
    have hl := HLe.out
    unfold verS
    rw [hE, HHn.out, HK.out, show decide (m.length ≤ 16384) = true by simpa using hl]
    simp)
  generalize k * x % Q = Z at *
  generalize (n + Z) % Q = T at *
  generalize pwi P G n = R at *
  clear M5 M7 HR HH HHn hk HK z0 z1 r0 r1 hf n0 n1 x0 x1
  obtain ⟨c0, c1, c2⟩ := HA5.out
  go_wp2_with (refine wpList_store_rowTo rfl 30 _ _ rfl rfl o1 D rfl rfl 30 D0 HD4.out hD3 (by rw [HS1.out, hD1]) hD2 ?_)
  generalize w4.setRow o1 D = w5 at *
  clear HA4 HD4 HZ4 HY4 HU4
  refine (M5n.out _ (HU5.out)).mono ?_
  rintro e w6 ⟨rfl, hU6⟩
  have HA6 := hid (HA5.out.up hU6)
  have HD6 := hid (HD5.out.up hU6)
  have HZ6 := hid (HZ5.out.up hU6)
  have HY6 := hid (HY5.out.up hU6)
  have HU6 := hid (HU5.out.trans hU6)
  clear hU6 HA5 HD5 HZ5 HY5 HU5 c0 c1 c2
  obtain ⟨c0, c1, c2⟩ := HA6.out
  go_wp2_with fail
  refine (M6.out _ (HU6.out)).mono ?_
  rintro e w7 ⟨rfl, hU7⟩
  have HA7 := hid (HA6.out.up hU7)
  have HD7 := hid (HD6.out.up hU7)
  have HZ7 := hid (HZ6.out.up hU7)
  have HY7 := hid (HY6.out.up hU7)
  have HU7 := hid (HU6.out.trans hU7)
  clear hU7 HA6 HD6 HZ6 HY6 HU6 c0 c1 c2
  obtain ⟨c0, c1, c2⟩ := HA7.out
  go_wp2_with fail
  refine (M7n.out _ (HU7.out)).mono ?_
  rintro e w8 ⟨rfl, hU8⟩
  have HA8 := hid (HA7.out.up hU8)
  have HD8 := hid (HD7.out.up hU8)
  have HZ8 := hid (HZ7.out.up hU8)
  have HY8 := hid (HY7.out.up hU8)
  have HU8 := hid (HU7.out.trans hU8)
  clear hU8 HA7 HD7 HZ7 HY7 HU7 c0 c1 c2
  obtain ⟨c0, c1, c2⟩ := HA8.out
  go_wp2_with fail
  refine (M8.out _).mono ?_
  rintro e w9 ⟨rfl, hU9⟩
  have HA9 := hid (HA8.out.up hU9)
  have HD9 := hid (HD8.out.up hU9)
  have HZ9 := hid (HZ8.out.up hU9)
  have HY9 := hid (HY8.out.up hU9)
  have HU9 := hid (HU8.out.trans hU9)
  clear hU9 HA8 HD8 HZ8 HY8 HU8 c0 c1 c2
  obtain ⟨c0, c1, c2⟩ := HA9.out
  go_wp2_with fail
  refine (M9.out _).mono ?_
  rintro e w10 ⟨rfl, hU10⟩
  have HA10 := hid (HA9.out.up hU10)
  have HD10 := hid (HD9.out.up hU10)
  have HZ10 := hid (HZ9.out.up hU10)
  have HY10 := hid (HY9.out.up hU10)
  have HU10 := hid (HU9.out.trans hU10)
  clear hU10 HA9 HD9 HZ9 HY9 HU9 c0 c1 c2
  obtain ⟨c0, c1, c2⟩ := HA10.out
  go_wp2_with fail
  clear c0 c1 c2
  refine region_E (fun w' => Blk w' o1 30 D) 6 (by kernel_rfl) (HD10.out.up (Up.refl _).drew) fun hS => ?_
  have hZ0 := HZ10.out.up (Up.refl w10).drew
  have hY0 := HY10.out.up (Up.refl w10).drew
  have hU0 := HU10.out.drew
  generalize w10.drew = v0 at *
  refine anyE_take (i := 0) (v := ?_) 120 rfl rfl (by kernel_rfl) (by kernel_rfl) (by decide) (fun _ _ _ h => h) (by kernel_rfl) (by kernel_rfl) (.inl ⟨by rfl, fun u hu => ?_⟩) hS ?_
  rotate_left
  · (go_simp; first | done | with_reducible rfl)
  try simp only [Act.put, List.setIfInBounds_toArray, List.set_cons_zero, List.set_cons_succ]
  refine anyE_take (i := 1) (v := ?_) 121 rfl rfl (by kernel_rfl) (by kernel_rfl) (by decide) (fun _ _ _ h => h) (by kernel_rfl) (by kernel_rfl) (.inl ⟨by rfl, fun u hu => ?_⟩) hS ?_
  rotate_left
  · (go_simp; first | done | with_reducible rfl)
  try simp only [Act.put, List.setIfInBounds_toArray, List.set_cons_zero, List.set_cons_succ]
  refine anyE_take (i := 3) (v := .agg D.toList.toArray) 123 rfl rfl (by kernel_rfl) (by kernel_rfl) (by decide) (fun _ _ _ h => h) (by kernel_rfl) (by kernel_rfl) (yieldsIf_load_mid (by rfl) 30 _ rfl o1 0 rfl D.toList _ (fun u hu => blk_range hu) Tryd.underlying30 rfl (by rw [Array.length_toList]; exact hD3)) hS ?_
  rw [Array.toArray_toList]
  try simp only [Act.put, List.setIfInBounds_toArray, List.set_cons_zero, List.set_cons_succ]
  refine anyE_one (i := 2) rfl (by kernel_rfl) rfl (fun K hK => ?_)
  refine op_builtS 33 _ rfl _ rfl #[.int .i64 k, .int .i64 T] (by kernel_rfl) ?_
  refine hK.out _ _ (.inr hS) ?_
  clear hK
  try simp only [Act.put, List.setIfInBounds_toArray]
  refine anyE_one (i := 4) rfl (by kernel_rfl) rfl (fun K hK => ?_)
  refine op_store_row 33 _ _ rfl rfl o2 #[.int .i64 k, .int .i64 T] rfl rfl 33 #[.int .i64 0, .int .i64 0] hZ0 (sizeSig _ _) rfl (by first | kernel_rfl | simp [Value.oneCell']) ?_
  have hS1 := Blk.rowApart hS (show o1 ≠ o2 by omega) #[.int .i64 k, .int .i64 T]
  refine hK.out _ _ (.inr hS1) ?_
  clear hK
  refine anyE_one (i := 5) rfl (by kernel_rfl) rfl (fun K hK => ?_)
  refine op_store_row 30 _ _ rfl rfl o3 D rfl rfl 30 (drwA zeroH 0) (hY0.rowApart (show o3 ≠ o2 by omega) _) hD3 (by rw [drwA_size, hD1]) hD2 ?_
  have hS2 := Blk.rowApart hS1 (show o1 ≠ o3 by omega) D
  refine hK.out _ _ (.inr hS2) ?_
  clear hK
  refine anyE_one (i := 6) rfl (by kernel_rfl) rfl (fun K hK => ?_)
  go_simp
  refine hK.out _ _ (.inl rfl) (anyE_done (by kernel_rfl) ?_ _)
  clear hK
  go_wp2
  refine bodyPost_ret (results_row_row_tmp Tryd.results21 _ _ o2 o3 33 30 _ _ (0, 0) (0, 0) _ _ (by rfl) ((hZ0.row _).rowApart (show o2 ≠ o3 by omega) _) Tryd.underlying33 rfl (sizeSig _ _) (by rfl) ((hY0.rowApart (show o3 ≠ o2 by omega) _).row _) Tryd.underlying30 rfl hD3) rfl ⟨⟨k, T, D, 0, rfl, hD1, hD2, fun _ => ⟨HC.out, HSs.out, HVs.out⟩, fun h => absurd rfl h⟩, (hU0.setRow hl2 _).setRow hl3 _⟩
end Go.Proofs.YtkimojconidhlaaDoor
namespace Go.Proofs.YtkimojconidhlaaDoor
open Go.RowKit Go.Sp
set_option maxHeartbeats 4000000
set_option maxRecDepth 20000

/-- What Sign returns. -/
def SignOut (P Q G A B C x : Int) (l : List Rec) (w : World) (e : Ending) (w' : World) : Prop :=
  (∃ v c s D E, e = .returned (.tuple #[.agg #[v, .int .i64 c, .int .i64 s], .agg D, .int .i64 E]) ∧ D.size = 33 ∧ D.all (·.oneCell') = true ∧
    (E = 0 → OwnR 46 w' w.heap.size v l ∧ bvB P Q G A B C = true ∧ allR P Q G A B C l = true ∧ twB l = false ∧ exB Q x = true ∧ verS P Q G (pwi P G x) (msgR l) c s = true) ∧ (E ≠ 0 → v = nilS ∧ c = 0 ∧ s = 0)) ∧ Up w w'
theorem sizeKL (v : Value) (c s : Int) : (Tryd.prog.info? 35).map (·.size) = some (#[v, Value.int .i64 c, Value.int .i64 s]).size := by kernel_rfl
theorem ownR_row {e t : TypeId} {w : World} {base k : Nat} {v : Value} {rs : List Rec} {cs : Array Value} (h : OwnR e w base v rs) (hb : Blk w k t cs) (hne : t ≠ e) (cs' : Array Value) : OwnR e (w.setRow k cs') base v rs := by
  have ha : some k ≠ v.ownBlock := by
    rcases h.2 with ⟨rfl, _⟩ | ⟨g', cap, cur, rfl, _, hg, _⟩
    · simp [Value.ownBlock]
    · intro he
      simp [Value.ownBlock] at he
      subst he
      have hb' : w.heap[k]? = some (.cells cs t (0, 0)) := hb
      rw [hb'] at hg
      simp only [Option.some.injEq, Obj.cells.injEq] at hg
      exact hne hg.2.1
  refine ⟨h.1, ?_⟩
  rcases h.2 with h2 | ⟨g', cap, cur, rfl, h1, hc, h3⟩
  · exact .inl h2
  · exact .inr ⟨g', cap, cur, rfl, h1, (setRow_other w k g' cs' (by intro e; subst e; exact ha rfl)).trans hc, h3⟩
theorem exB_no {Q x : Int} (h : ¬ exB Q x = true) : (x < 0 ∨ x ≥ Q) := by
  rw [exB_iff] at h
  omega

theorem eSign_any (P Q G A B C x : Int) (h : Nat → Int) (ct : Int) (v : Value) (l : List Rec) (w : World) (hP : -9223372036854775808 ≤ P) (hQ : Q ≤ 9223372036854775807) (hT : Tab w) (hS : TabS w) (hB : Byt h) (hv : RecsAt w v l) (hn : NilOr v) (hl : l.length ≤ 1000) (hI : ∀ r ∈ l, I64 r.kd ∧ I64 r.nr ∧ I64 r.co) :
    Calls Tryd.prog 5 #[bas P Q G A B C, .int .i64 x, v, drw h ct] w (SignOut P Q G A B C x l w) := by
  have M1 := hid (fun w' (hU : Up w w') => bValid_any P Q G A B C w' hP hQ (hT.up hU))
  have M2 := hid (fun w' (hU : Up w w') => evalid_any P Q G A B C v l w' hP hQ (hT.up hU) (hv.up hU))
  have M3 := hid (fun w' => draValid_any h ct w')
  have M4 := hid (fun w' (hU : Up w w') => twice_any v l w' (hv.up hU) hl hI)
  have M5 := hid (fun w' (hU : Up w w') => message_any v l w' (hv.up hU) hl)
  have M6 := hid (fun u w' (hU : Up w w') (hg : gvB P Q G = true) (hx : exB Q x = true) (hu : SeqAt .u8 w' u (msgR l)) (hm : (msgR l).length ≤ 16384) => sigSign_ok P Q G x ct h u (msgR l) w' hP hQ (hT.up hU) (hS.up hU) hg hx hB hu (msgR_byt l) hm)
  have M7 := hid (fun w' (hU : Up w w') => cloneR_any v l w' (hv.up hU) hn hl)
  have HG := hid (fun (hb : bvB P Q G A B C = true) => (bv_iff.1 hb).1)
  have HSz := hid (sizeDrw h ct)
  have HS1 := hid (drwA_size h ct)
  obtain ⟨b1, hb1⟩ : ∃ b, bvB P Q G A B C = b := ⟨_, rfl⟩
  obtain ⟨b2, hb2⟩ : ∃ b, allR P Q G A B C l = b := ⟨_, rfl⟩
  obtain ⟨b4, hb4⟩ : ∃ b, twB l = b := ⟨_, rfl⟩
  rw [hb1] at M1 HG
  rw [hb2] at M2
  rw [hb4] at M4
  have HB1 := hid hb1
  have HB2 := hid hb2
  have HB4 := hid hb4
  clear hb1 hb2 hb4
  generalize dvB ct = b3 at *
  unfold drw at M3 M6 ⊢
  generalize drwA h ct = D0 at *
  obtain ⟨_, a, cp, rfl, _⟩ := hv
  obtain ⟨m, hm⟩ : ∃ m, l.length = m := ⟨_, rfl⟩
  rw [hm] at M2 M4 M5 M7 ⊢
  obtain ⟨o, ho⟩ : ∃ o, w.heap.size = o := ⟨_, rfl⟩
  have HO := hid ho
  obtain ⟨o1, ho1⟩ : ∃ o1, o + 1 = o1 := ⟨_, rfl⟩
  have HO1 := hid ho1
  obtain ⟨o2, ho2⟩ : ∃ o2, o1 + 1 = o2 := ⟨_, rfl⟩
  have HO2 := hid ho2
  obtain ⟨o3, ho3⟩ : ∃ o3, o2 + 1 = o3 := ⟨_, rfl⟩
  have HO3 := hid ho3
  have hl2 : w.heap.size ≤ o2 := by omega
  have hl3 : w.heap.size ≤ o3 := by omega
  have hl1 : w.heap.size ≤ o1 := by omega
  have n12 : o1 < o2 := by omega
  have n23 : o2 < o3 := by omega
  have n01 : o < o1 := by omega
  clear hT hS hB hn hI hm ho ho1 ho2 ho3
  go_enter Tryd.func5, Tryd.ntmps5
  go_wp2_with fail
  refine (M1.out _ (((((Up.refl w).alloc _).alloc _).alloc _).alloc _)).mono ?_
  rintro e w1 ⟨rfl, hU1⟩
  have HA1 := hid (((nums_six (w := w) (t := 25) HO.out).up ((((Up.refl _).alloc _).alloc _).alloc _)).up hU1)
  have HD1 := hid (((Blk.new (g := o1) (t := 30) (cs := D0) (by have := HO.out; have := HO1.out; have := HO2.out; have := HO3.out; simp; omega) rfl).up (((Up.refl _).alloc _).alloc _)).up hU1)
  have HK1 := hid (((Blk.new (g := o2) (t := 35) (cs := #[nilS, .int .i64 0, .int .i64 0]) (by have := HO.out; have := HO1.out; have := HO2.out; have := HO3.out; simp; omega) rfl).up ((Up.refl _).alloc _)).up hU1)
  have HY1 := hid (((Blk.new (g := o3) (t := 30) (by have := HO.out; have := HO1.out; have := HO2.out; have := HO3.out; simp; omega) zero33)).up hU1)
  have HU1 := hid ((((((Up.refl w).alloc _).alloc _).alloc _).alloc _).trans hU1)
  clear hU1
  rw [HO.out, HO1.out, HO2.out, HO3.out]
  obtain ⟨⟨c0, c1, c2⟩, c3, c4, c5⟩ := HA1.out
  cases b1
  case false =>
    have hz := HK1.out
    have hy := HY1.out
    have hu := HU1.out
    go_wp2_with (first
      | (refine wpList_store_rowTo rfl 35 _ _ rfl rfl o2 #[nilS, .int .i64 0, .int .i64 0] rfl rfl 35 #[nilS, .int .i64 0, .int .i64 0] hz (sizeKL _ _ _) rfl (by first | kernel_rfl | simp [Value.oneCell']) ?_)
      | (refine wpList_store_rowTo rfl 30 _ _ rfl rfl o3 (drwA zeroH 0) rfl (congrArg Value.agg zero33) 30 (drwA zeroH 0) (hy.rowApart (show o3 ≠ o2 by omega) _) (sizeDrw _ _) rfl (drwA_one _ _) ?_))
    refine bodyPost_ret (results_row_row_tmp Tryd.results5 _ _ o2 o3 35 30 _ _ (0, 0) (0, 0) _ _ (by rfl) ((hz.row _).rowApart (show o2 ≠ o3 by omega) _) Tryd.underlying35 rfl (sizeKL _ _ _) (by rfl) ((hy.rowApart (show o3 ≠ o2 by omega) _).row _) Tryd.underlying30 rfl (sizeDrw _ _)) rfl ⟨⟨nilS, 0, 0, _, 1, rfl, drwA_size _ _, drwA_one _ _, fun h => absurd h (by decide), fun _ => ⟨rfl, rfl, rfl⟩⟩, (hu.setRow hl2 _).setRow hl3 _⟩
  go_wp2_with fail
  refine (M2.out _ (HU1.out)).mono ?_
  rintro e w2 ⟨rfl, hU2⟩
  have HA2 := hid (HA1.out.up hU2)
  have HD2 := hid (HD1.out.up hU2)
  have HK2 := hid (HK1.out.up hU2)
  have HY2 := hid (HY1.out.up hU2)
  have HU2 := hid (HU1.out.trans hU2)
  clear hU2 HA1 HD1 HK1 HY1 HU1 c0 c1 c2 c3 c4 c5
  obtain ⟨⟨c0, c1, c2⟩, c3, c4, c5⟩ := HA2.out
  cases b2
  case false =>
    have hz := HK2.out
    have hy := HY2.out
    have hu := HU2.out
    go_wp2_with (first
      | (refine wpList_store_rowTo rfl 35 _ _ rfl rfl o2 #[nilS, .int .i64 0, .int .i64 0] rfl rfl 35 #[nilS, .int .i64 0, .int .i64 0] hz (sizeKL _ _ _) rfl (by first | kernel_rfl | simp [Value.oneCell']) ?_)
      | (refine wpList_store_rowTo rfl 30 _ _ rfl rfl o3 (drwA zeroH 0) rfl (congrArg Value.agg zero33) 30 (drwA zeroH 0) (hy.rowApart (show o3 ≠ o2 by omega) _) (sizeDrw _ _) rfl (drwA_one _ _) ?_))
    refine bodyPost_ret (results_row_row_tmp Tryd.results5 _ _ o2 o3 35 30 _ _ (0, 0) (0, 0) _ _ (by rfl) ((hz.row _).rowApart (show o2 ≠ o3 by omega) _) Tryd.underlying35 rfl (sizeKL _ _ _) (by rfl) ((hy.rowApart (show o3 ≠ o2 by omega) _).row _) Tryd.underlying30 rfl (sizeDrw _ _)) rfl ⟨⟨nilS, 0, 0, _, 1, rfl, drwA_size _ _, drwA_one _ _, fun h => absurd h (by decide), fun _ => ⟨rfl, rfl, rfl⟩⟩, (hu.setRow hl2 _).setRow hl3 _⟩
  go_wp2_with (first | refine wpList_load_row rfl 30 _ rfl o1 rfl 30 D0 (0, 0) _ HD2.out Tryd.underlying30 rfl HSz.out ?_ | refine wpList_load_rowG (by rfl) 30 _ rfl o1 rfl 30 D0 (0, 0) _ HD2.out Tryd.underlying30 rfl HSz.out ?_)
  refine (M3.out _).mono ?_
  rintro e w3 ⟨rfl, hU3⟩
  have HA3 := hid (HA2.out.up hU3)
  have HD3 := hid (HD2.out.up hU3)
  have HK3 := hid (HK2.out.up hU3)
  have HY3 := hid (HY2.out.up hU3)
  have HU3 := hid (HU2.out.trans hU3)
  clear hU3 HA2 HD2 HK2 HY2 HU2 c0 c1 c2 c3 c4 c5
  obtain ⟨⟨c0, c1, c2⟩, c3, c4, c5⟩ := HA3.out
  cases b3
  case false =>
    have hz := HK3.out
    have hy := HY3.out
    have hu := HU3.out
    go_wp2_with (first
      | (refine wpList_store_rowTo rfl 35 _ _ rfl rfl o2 #[nilS, .int .i64 0, .int .i64 0] rfl rfl 35 #[nilS, .int .i64 0, .int .i64 0] hz (sizeKL _ _ _) rfl (by first | kernel_rfl | simp [Value.oneCell']) ?_)
      | (refine wpList_store_rowTo rfl 30 _ _ rfl rfl o3 (drwA zeroH 0) rfl (congrArg Value.agg zero33) 30 (drwA zeroH 0) (hy.rowApart (show o3 ≠ o2 by omega) _) (sizeDrw _ _) rfl (drwA_one _ _) ?_))
    refine bodyPost_ret (results_row_row_tmp Tryd.results5 _ _ o2 o3 35 30 _ _ (0, 0) (0, 0) _ _ (by rfl) ((hz.row _).rowApart (show o2 ≠ o3 by omega) _) Tryd.underlying35 rfl (sizeKL _ _ _) (by rfl) ((hy.rowApart (show o3 ≠ o2 by omega) _).row _) Tryd.underlying30 rfl (sizeDrw _ _)) rfl ⟨⟨nilS, 0, 0, _, 1, rfl, drwA_size _ _, drwA_one _ _, fun h => absurd h (by decide), fun _ => ⟨rfl, rfl, rfl⟩⟩, (hu.setRow hl2 _).setRow hl3 _⟩
  by_cases hx : exB Q x = true
  case neg =>
    rcases exB_no hx with h1 | h1
    · have e1 : decide (x < 0) = true := by simpa using h1
      have hz := HK3.out
      have hy := HY3.out
      have hu := HU3.out
      go_wp2_with (first
        | (refine wpList_store_rowTo rfl 35 _ _ rfl rfl o2 #[nilS, .int .i64 0, .int .i64 0] rfl rfl 35 #[nilS, .int .i64 0, .int .i64 0] hz (sizeKL _ _ _) rfl (by first | kernel_rfl | simp [Value.oneCell']) ?_)
        | (refine wpList_store_rowTo rfl 30 _ _ rfl rfl o3 (drwA zeroH 0) rfl (congrArg Value.agg zero33) 30 (drwA zeroH 0) (hy.rowApart (show o3 ≠ o2 by omega) _) (sizeDrw _ _) rfl (drwA_one _ _) ?_))
      refine bodyPost_ret (results_row_row_tmp Tryd.results5 _ _ o2 o3 35 30 _ _ (0, 0) (0, 0) _ _ (by rfl) ((hz.row _).rowApart (show o2 ≠ o3 by omega) _) Tryd.underlying35 rfl (sizeKL _ _ _) (by rfl) ((hy.rowApart (show o3 ≠ o2 by omega) _).row _) Tryd.underlying30 rfl (sizeDrw _ _)) rfl ⟨⟨nilS, 0, 0, _, 2, rfl, drwA_size _ _, drwA_one _ _, fun h => absurd h (by decide), fun _ => ⟨rfl, rfl, rfl⟩⟩, (hu.setRow hl2 _).setRow hl3 _⟩
    · by_cases h2 : x < 0
      · have e1 : decide (x < 0) = true := by simpa using h2
        have hz := HK3.out
        have hy := HY3.out
        have hu := HU3.out
        go_wp2_with (first
          | (refine wpList_store_rowTo rfl 35 _ _ rfl rfl o2 #[nilS, .int .i64 0, .int .i64 0] rfl rfl 35 #[nilS, .int .i64 0, .int .i64 0] hz (sizeKL _ _ _) rfl (by first | kernel_rfl | simp [Value.oneCell']) ?_)
          | (refine wpList_store_rowTo rfl 30 _ _ rfl rfl o3 (drwA zeroH 0) rfl (congrArg Value.agg zero33) 30 (drwA zeroH 0) (hy.rowApart (show o3 ≠ o2 by omega) _) (sizeDrw _ _) rfl (drwA_one _ _) ?_))
        refine bodyPost_ret (results_row_row_tmp Tryd.results5 _ _ o2 o3 35 30 _ _ (0, 0) (0, 0) _ _ (by rfl) ((hz.row _).rowApart (show o2 ≠ o3 by omega) _) Tryd.underlying35 rfl (sizeKL _ _ _) (by rfl) ((hy.rowApart (show o3 ≠ o2 by omega) _).row _) Tryd.underlying30 rfl (sizeDrw _ _)) rfl ⟨⟨nilS, 0, 0, _, 2, rfl, drwA_size _ _, drwA_one _ _, fun h => absurd h (by decide), fun _ => ⟨rfl, rfl, rfl⟩⟩, (hu.setRow hl2 _).setRow hl3 _⟩
      · have e1 : decide (x < 0) = false := by simpa using h2
        have e2 : decide (x ≥ Q) = true := by simpa using h1
        have hz := HK3.out
        have hy := HY3.out
        have hu := HU3.out
        go_wp2_with (first
          | (refine wpList_store_rowTo rfl 35 _ _ rfl rfl o2 #[nilS, .int .i64 0, .int .i64 0] rfl rfl 35 #[nilS, .int .i64 0, .int .i64 0] hz (sizeKL _ _ _) rfl (by first | kernel_rfl | simp [Value.oneCell']) ?_)
          | (refine wpList_store_rowTo rfl 30 _ _ rfl rfl o3 (drwA zeroH 0) rfl (congrArg Value.agg zero33) 30 (drwA zeroH 0) (hy.rowApart (show o3 ≠ o2 by omega) _) (sizeDrw _ _) rfl (drwA_one _ _) ?_))
        refine bodyPost_ret (results_row_row_tmp Tryd.results5 _ _ o2 o3 35 30 _ _ (0, 0) (0, 0) _ _ (by rfl) ((hz.row _).rowApart (show o2 ≠ o3 by omega) _) Tryd.underlying35 rfl (sizeKL _ _ _) (by rfl) ((hy.rowApart (show o3 ≠ o2 by omega) _).row _) Tryd.underlying30 rfl (sizeDrw _ _)) rfl ⟨⟨nilS, 0, 0, _, 2, rfl, drwA_size _ _, drwA_one _ _, fun h => absurd h (by decide), fun _ => ⟨rfl, rfl, rfl⟩⟩, (hu.setRow hl2 _).setRow hl3 _⟩
  have e1 : decide (x < 0) = false := by have := exB_iff.1 hx; simp; omega
  have e2 : decide (x ≥ Q) = false := by have := exB_iff.1 hx; simp; omega
  have HX := hid hx
  clear hx
  go_wp2_with fail
  refine (M4.out _ (HU3.out)).mono ?_
  rintro e w4 ⟨rfl, hU4⟩
  have HA4 := hid (HA3.out.up hU4)
  have HD4 := hid (HD3.out.up hU4)
  have HK4 := hid (HK3.out.up hU4)
  have HY4 := hid (HY3.out.up hU4)
  have HU4 := hid (HU3.out.trans hU4)
  clear hU4 HA3 HD3 HK3 HY3 HU3 c0 c1 c2 c3 c4 c5
  obtain ⟨⟨c0, c1, c2⟩, c3, c4, c5⟩ := HA4.out
  cases b4
  case true =>
    have hz := HK4.out
    have hy := HY4.out
    have hu := HU4.out
    go_wp2_with (first
      | (refine wpList_store_rowTo rfl 35 _ _ rfl rfl o2 #[nilS, .int .i64 0, .int .i64 0] rfl rfl 35 #[nilS, .int .i64 0, .int .i64 0] hz (sizeKL _ _ _) rfl (by first | kernel_rfl | simp [Value.oneCell']) ?_)
      | (refine wpList_store_rowTo rfl 30 _ _ rfl rfl o3 (drwA zeroH 0) rfl (congrArg Value.agg zero33) 30 (drwA zeroH 0) (hy.rowApart (show o3 ≠ o2 by omega) _) (sizeDrw _ _) rfl (drwA_one _ _) ?_))
    refine bodyPost_ret (results_row_row_tmp Tryd.results5 _ _ o2 o3 35 30 _ _ (0, 0) (0, 0) _ _ (by rfl) ((hz.row _).rowApart (show o2 ≠ o3 by omega) _) Tryd.underlying35 rfl (sizeKL _ _ _) (by rfl) ((hy.rowApart (show o3 ≠ o2 by omega) _).row _) Tryd.underlying30 rfl (sizeDrw _ _)) rfl ⟨⟨nilS, 0, 0, _, 8, rfl, drwA_size _ _, drwA_one _ _, fun h => absurd h (by decide), fun _ => ⟨rfl, rfl, rfl⟩⟩, (hu.setRow hl2 _).setRow hl3 _⟩
  go_wp2_with fail
  refine (M5.out _ HU4.out).mono ?_
  rintro e w5 ⟨u, rfl, hu5, hU5⟩
  have HA5 := hid (HA4.out.up hU5)
  have HD5 := hid (HD4.out.up hU5)
  have HK5 := hid (HK4.out.up hU5)
  have HY5 := hid (HY4.out.up hU5)
  have HU5 := hid (HU4.out.trans hU5)
  obtain ⟨ua, uc, rfl, _, _⟩ := hu5.shape
  have HUq := hid hu5
  clear hU5 hu5 HA4 HD4 HK4 HY4 HU4 c0 c1 c2 c3 c4 c5
  by_cases hm : (msgR l).length ≤ 16384
  case neg =>
    have hd : decide ((msgR l).length ≤ 16384) = false := by simpa using hm
    rw [hd, if_neg hm]
    clear hd hm
    have hz := HK5.out
    have hy := HY5.out
    have hu := HU5.out
    go_wp2_with (first
      | (refine wpList_store_rowTo rfl 35 _ _ rfl rfl o2 #[nilS, .int .i64 0, .int .i64 0] rfl rfl 35 #[nilS, .int .i64 0, .int .i64 0] hz (sizeKL _ _ _) rfl (by first | kernel_rfl | simp [Value.oneCell']) ?_)
      | (refine wpList_store_rowTo rfl 30 _ _ rfl rfl o3 (drwA zeroH 0) rfl (congrArg Value.agg zero33) 30 (drwA zeroH 0) (hy.rowApart (show o3 ≠ o2 by omega) _) (sizeDrw _ _) rfl (drwA_one _ _) ?_))
    refine bodyPost_ret (results_row_row_tmp Tryd.results5 _ _ o2 o3 35 30 _ _ (0, 0) (0, 0) _ _ (by rfl) ((hz.row _).rowApart (show o2 ≠ o3 by omega) _) Tryd.underlying35 rfl (sizeKL _ _ _) (by rfl) ((hy.rowApart (show o3 ≠ o2 by omega) _).row _) Tryd.underlying30 rfl (sizeDrw _ _)) rfl ⟨⟨nilS, 0, 0, _, 5, rfl, drwA_size _ _, drwA_one _ _, fun h => absurd h (by decide), fun _ => ⟨rfl, rfl, rfl⟩⟩, (hu.setRow hl2 _).setRow hl3 _⟩
  have hd : decide ((msgR l).length ≤ 16384) = true := by simpa using hm
  rw [if_pos hm] at HUq ⊢
  rw [hd]
  have HMl := hid hm
  clear hd hm
  obtain ⟨⟨c0, c1, c2⟩, c3, c4, c5⟩ := HA5.out
  go_wp2_with (first | refine wpList_load_row rfl 30 _ rfl o1 rfl 30 D0 (0, 0) _ HD5.out Tryd.underlying30 rfl HSz.out ?_ | refine wpList_load_rowG (by rfl) 30 _ rfl o1 rfl 30 D0 (0, 0) _ HD5.out Tryd.underlying30 rfl HSz.out ?_)
  refine (M6.out _ _ HU5.out (HG.out (by trivial)) HX.out HUq.out HMl.out).mono ?_
  rintro e w6 ⟨⟨c, s, D, E, rfl, hD1, hD2, hE0, hE1⟩, hU6⟩
  have HA6 := hid (HA5.out.up hU6)
  have HD6 := hid (HD5.out.up hU6)
  have HK6 := hid (HK5.out.up hU6)
  have HY6 := hid (HY5.out.up hU6)
  have HU6 := hid (HU5.out.trans hU6)
  have hD3 : (Tryd.prog.info? 30).map (·.size) = some D.size := by rw [hD1]; kernel_rfl
  have HE0 := hid hE0
  have HD1 := hid hD1
  have HD2 := hid hD2
  clear hU6 hE0 hE1 HA5 HD5 HK5 HY5 HU5 HUq c0 c1 c2 c3 c4 c5 hD1 hD2 HA6
  obtain ⟨os, hos⟩ : ∃ os, w6.heap.size = os := ⟨_, rfl⟩
  have l3s : o3 < os := by rw [← hos]; exact HY6.out.lt
  obtain ⟨w7, hw7⟩ : ∃ w7, w6.alloc (.cells #[.int .i64 c, .int .i64 s] 33) = w7 := ⟨_, rfl⟩
  have hup7 : Up w6 w7 := by rw [← hw7]; exact (Up.refl w6).alloc _
  have HG7 : Hid (Blk w7 os 33 #[.int .i64 c, .int .i64 s]) := hid (by rw [← hw7]; exact Blk.new hos rfl)
  have HD7 := hid (HD6.out.up hup7)
  have HK7 := hid (HK6.out.up hup7)
  have HY7 := hid (HY6.out.up hup7)
  have HU7 := hid (HU6.out.trans hup7)
  have HW7 := hid hw7
  have HOs := hid hos
  clear hup7 hw7 hos HD6 HK6 HY6 HU6
  by_cases hE : E = 0
  case neg =>
    have dE : (E != 0) = true := by simpa using hE
    have HK8 := hid (HK7.out.rowApart (k := o1) (by omega) D)
    have HY8 := hid (HY7.out.rowApart (k := o1) (by omega) D)
    have HU8 := hid (HU7.out.setRow (g := o1) hl1 D)
    have hz := HK8.out
    have hy := HY8.out
    have hu := HU8.out
    go_wp2_with (first
      | (rw [HW7.out]; refine wpList_store_rowTo rfl 30 _ _ rfl rfl o1 D rfl rfl 30 D0 HD7.out hD3 (by rw [HS1.out, HD1.out]) HD2.out ?_)
      | (refine wpList_store_rowTo rfl 35 _ _ rfl rfl o2 #[nilS, .int .i64 0, .int .i64 0] rfl rfl 35 #[nilS, .int .i64 0, .int .i64 0] hz (sizeKL _ _ _) rfl (by first | kernel_rfl | simp [Value.oneCell']) ?_)
      | (refine wpList_store_rowTo rfl 30 _ _ rfl rfl o3 (drwA zeroH 0) rfl (congrArg Value.agg zero33) 30 (drwA zeroH 0) (hy.rowApart (show o3 ≠ o2 by omega) _) (sizeDrw _ _) rfl (drwA_one _ _) ?_))
    refine bodyPost_ret (results_row_row_tmp Tryd.results5 _ _ o2 o3 35 30 _ _ (0, 0) (0, 0) _ _ (by rfl) ((hz.row _).rowApart (show o2 ≠ o3 by omega) _) Tryd.underlying35 rfl (sizeKL _ _ _) (by rfl) ((hy.rowApart (show o3 ≠ o2 by omega) _).row _) Tryd.underlying30 rfl (sizeDrw _ _)) rfl ⟨⟨nilS, 0, 0, _, E, rfl, drwA_size _ _, drwA_one _ _, fun h => absurd h hE, fun _ => ⟨rfl, rfl, rfl⟩⟩, (hu.setRow hl2 _).setRow hl3 _⟩
  subst hE
  go_wp2_with (rw [HW7.out]; refine wpList_store_rowTo rfl 30 _ _ rfl rfl o1 D rfl rfl 30 D0 HD7.out hD3 (by rw [HS1.out, HD1.out]) HD2.out ?_)
  have HD8 := hid (HD7.out.row D)
  have HG8 := hid (HG7.out.rowApart (k := o1) (by omega) D)
  have HK8 := hid (HK7.out.rowApart (k := o1) (by omega) D)
  have HY8 := hid (HY7.out.rowApart (k := o1) (by omega) D)
  have HU8 := hid (HU7.out.setRow (g := o1) hl1 D)
  clear HD7 HG7 HK7 HY7 HU7
  try rw [HOs.out]
  generalize w7.setRow o1 D = w8 at *
  refine region_E (fun u => Blk u o1 30 D ∧ Blk u os 33 #[.int .i64 c, .int .i64 s]) 7 (by kernel_rfl) ⟨HD8.out.up (Up.refl _).drew, HG8.out.up (Up.refl _).drew⟩ fun hS => ?_
  have hK0 := HK8.out.up (Up.refl w8).drew
  have hY0 := HY8.out.up (Up.refl w8).drew
  have hU0 := HU8.out.drew
  generalize w8.drew = v0 at *
  clear HD8 HG8 HK8 HY8 HU8
  refine anyE_take (i := 0) (v := ?_) 73 rfl rfl (by kernel_rfl) (by kernel_rfl) (by decide) (fun _ _ _ h => h) (by kernel_rfl) (by kernel_rfl) (.inl ⟨by rfl, fun u hu => ?_⟩) hS ?_
  rotate_left
  · (go_simp; first | done | with_reducible rfl)
  try simp only [Act.put, List.setIfInBounds_toArray, List.set_cons_zero, List.set_cons_succ]
  refine anyE_take (i := 2) (v := ?_) 75 rfl rfl (by kernel_rfl) (by kernel_rfl) (by decide) (fun _ _ _ h => h) (by kernel_rfl) (by kernel_rfl) (.inl ⟨by rfl, fun u hu => ?_⟩) hS ?_
  rotate_left
  · (have z0 := hu.2.val (i := 0) rfl; have z1 := hu.2.val (i := 1) rfl; go_simp; first | done | with_reducible rfl)
  try simp only [Act.put, List.setIfInBounds_toArray, List.set_cons_zero, List.set_cons_succ]
  refine anyE_take (i := 4) (v := .agg D.toList.toArray) 77 rfl rfl (by kernel_rfl) (by kernel_rfl) (by decide) (fun _ _ _ h => h) (by kernel_rfl) (by kernel_rfl) (yieldsIf_load_mid (by rfl) 30 _ rfl o1 0 rfl D.toList _ (fun u hu => blk_range hu.1) Tryd.underlying30 rfl (by rw [Array.length_toList]; exact hD3)) hS ?_
  rw [Array.toArray_toList]
  try simp only [Act.put, List.setIfInBounds_toArray, List.set_cons_zero, List.set_cons_succ]
  refine anyE_oneG (i := 1) rfl (by kernel_rfl) (by rfl) (fun K hK => ?_)
  go_simp
  refine (M7.out _ hU0).mono ?_
  rintro e v1 ⟨u1, rfl, hO1, hup⟩
  try dsimp only
  have hS1 : Blk v1 o1 30 D ∧ Blk v1 os 33 #[.int .i64 c, .int .i64 s] := ⟨hS.1.up hup, hS.2.up hup⟩
  have hK1 := hK0.up hup
  have hY1 := hY0.up hup
  have hO1 := hO1.mono hU0.size
  have hU1 := hU0.trans hup
  obtain ⟨ad, ac, hsh⟩ := hO1.shape
  refine hK.out _ _ (.inr hS1) ?_
  clear hK
  try simp only [Act.put, List.setIfInBounds_toArray, List.set_cons_zero, List.set_cons_succ]
  subst hsh
  refine anyE_oneG (i := 3) rfl (by kernel_rfl) (by rfl) (fun K hK => ?_)
  refine op_builtS 35 _ rfl _ rfl #[.slice ad l.length ac, .int .i64 c, .int .i64 s] (by kernel_rfl) ?_
  refine hK.out _ _ (.inr hS1) ?_
  clear hK
  try simp only [Act.put, List.setIfInBounds_toArray]
  refine anyE_oneG (i := 5) rfl (by kernel_rfl) (by rfl) (fun K hK => ?_)
  refine op_store_row 35 _ _ rfl rfl o2 #[.slice ad l.length ac, .int .i64 c, .int .i64 s] rfl rfl 35 #[nilS, .int .i64 0, .int .i64 0] hK1 (sizeKL _ _ _) rfl (by first | kernel_rfl | simp [Value.oneCell']) ?_
  have hS2 := And.intro (Blk.rowApart hS1.1 (show o1 ≠ o2 by omega) #[.slice ad l.length ac, .int .i64 c, .int .i64 s]) (Blk.rowApart hS1.2 (show os ≠ o2 by omega) #[.slice ad l.length ac, .int .i64 c, .int .i64 s])
  refine hK.out _ _ (.inr hS2) ?_
  clear hK
  try simp only [Act.put, List.setIfInBounds_toArray, List.set_cons_zero, List.set_cons_succ]
  refine anyE_oneG (i := 6) rfl (by kernel_rfl) (by rfl) (fun K hK => ?_)
  refine op_store_row 30 _ _ rfl rfl o3 D rfl rfl 30 (drwA zeroH 0) (hY1.rowApart (show o3 ≠ o2 by omega) _) hD3 (by rw [drwA_size, HD1.out]) HD2.out ?_
  have hS3 := And.intro (Blk.rowApart hS2.1 (show o1 ≠ o3 by omega) D) (Blk.rowApart hS2.2 (show os ≠ o3 by omega) D)
  refine hK.out _ _ (.inr hS3) ?_
  clear hK
  try simp only [Act.put, List.setIfInBounds_toArray, List.set_cons_zero, List.set_cons_succ]
  refine anyE_oneG (i := 7) rfl (by kernel_rfl) (by rfl) (fun K hK => ?_)
  go_simp
  refine hK.out _ _ (.inl rfl) (anyE_done (by kernel_rfl) ?_ _)
  clear hK
  go_wp2
  refine bodyPost_ret (results_row_row_tmp Tryd.results5 _ _ o2 o3 35 30 _ _ (0, 0) (0, 0) _ _ (by rfl) ((hK1.row _).rowApart (show o2 ≠ o3 by omega) _) Tryd.underlying35 rfl (sizeKL _ _ _) (by rfl) ((hY1.rowApart (show o3 ≠ o2 by omega) _).row _) Tryd.underlying30 rfl hD3) rfl ⟨⟨_, c, s, D, 0, rfl, HD1.out, HD2.out, fun _ => ⟨ownR_row (ownR_row hO1 hK1 (by decide) _) (hY1.rowApart (show o3 ≠ o2 by omega) _) (by decide) _, HB1.out, HB2.out, HB4.out, HX.out, (HE0.out (by trivial)).2.2⟩, fun h => absurd rfl h⟩, (hU1.setRow hl2 _).setRow hl3 _⟩
end Go.Proofs.YtkimojconidhlaaDoor
namespace Go.Proofs.YtkimojconidhlaaDoor
open Go.RowKit Go.Sp
set_option maxHeartbeats 1000000

/-- The record with its number q changed to x. -/
def Rec.put (r : Rec) (x : Int) : Nat → Rec
  | 0 => { r with kd := x } | 1 => { r with nr := x } | 2 => { r with co := x } | 3 => { r with iv := x } | 4 => { r with ni := x } | 5 => { r with ka := x }
  | 6 => { r with kb := x } | 7 => { r with kc := x } | 8 => { r with st := x } | 9 => { r with un := x } | 10 => { r with ac := x } | _ => r
theorem Rec.cells_length (r : Rec) : r.cells.length = 11 := rfl
theorem Rec.put_cells (r : Rec) (x : Int) {q : Nat} (hq : q < 11) : (r.put x q).cells = r.cells.set q (.int .i64 x) := by
  match q, hq with
  | 0, _ | 1, _ | 2, _ | 3, _ | 4, _ | 5, _ | 6, _ | 7, _ | 8, _ | 9, _ | 10, _ => rfl
theorem flat_put (x : Int) {q : Nat} (hq : q < 11) : ∀ (rs : List Rec) (k : Nat), k < rs.length →
    (rs.set k ((rs.getD k rec0).put x q)).flatMap Rec.cells = (rs.flatMap Rec.cells).set (k * 11 + q) (.int .i64 x)
  | [], k, h => by simp at h
  | r :: rs, 0, _ => by
    rw [List.set_cons_zero, List.flatMap_cons, List.flatMap_cons, show (r :: rs).getD 0 rec0 = r from rfl, Rec.put_cells r x hq, List.set_append_left (h := by rw [Rec.cells_length]; omega)]
    simp
  | r :: rs, k + 1, h => by
    have ih := flat_put x hq rs k (by simpa using h)
    rw [List.set_cons_succ, List.flatMap_cons, List.flatMap_cons, show (r :: rs).getD (k + 1) rec0 = rs.getD k rec0 from rfl, ih, List.set_append_right (h := by rw [Rec.cells_length]; omega)]
    congr 2
    rw [Rec.cells_length]
    omega
/-- The changed list's records. -/
theorem put_getD {rs : List Rec} {k i : Nat} (hi : i < rs.length) (r : Rec) : (rs.set k r).getD i rec0 = if k = i then r else rs.getD i rec0 := by
  simp only [List.getD_eq_getElem?_getD, List.getElem?_set]
  by_cases h : k = i
  · subst h; simp [hi]
  · simp [h]
/-- The own list behind the store. -/
theorem OwnR.putCell {e : TypeId} {w : World} {base g n cap : Nat} {rs : List Rec} {k q : Nat} (h : OwnR e w base (.slice (some ⟨g, 0, none⟩) n cap) rs) (hk : k < rs.length) (hq : q < 11) (x : Int) :
    OwnR e (w.setCell ⟨g, k * 11 + q, none⟩ (.int .i64 x)) base (.slice (some ⟨g, 0, none⟩) n cap) (rs.set k ((rs.getD k rec0).put x q)) := by
  obtain ⟨h1, h2⟩ := h
  unfold OwnR
  rw [List.length_set, flat_put x hq rs k hk]
  refine ⟨by rw [List.length_set]; exact h1, .inr ?_⟩
  rcases h2 with ⟨hv, _⟩ | ⟨g', cap', cur, hv, hb, hg, hc, hm, hs, ht⟩
  · simp at hv
  · simp only [Value.slice.injEq, Option.some.injEq, Addr.mk.injEq, and_true] at hv
    obtain ⟨rfl, rfl, rfl⟩ := hv
    have hB : Blk w g e cur := hg
    have hB2 := hB.wrote (k * 11 + q) (.int .i64 x)
    refine ⟨g, cap, _, rfl, hb, hB2, hc, hm, by simpa using hs, ?_⟩
    simp only [Array.toList_setIfInBounds]
    rw [← ht, List.take_set]
end Go.Proofs.YtkimojconidhlaaDoor
namespace Go.Proofs.YtkimojconidhlaaDoor
open Go.RowKit Go.Sp
set_option maxHeartbeats 4000000
set_option maxRecDepth 20000

theorem results_tmp2_row_tmp {P : Program} {fn : Func} {q r p u : Tmp} {ty : TypeId} (h : fn.results = #[.tmp q, .tmp r, .cell p ty, .tmp u]) (tmps : Array Value) (w : World) (g : Nat) (t : TypeId) (cs : Array Value) (fr : Nat × Nat) (d : TypeDesc)
    (hp : tmps.getD p undef = .pointer (some ⟨g, 0, none⟩)) (hg : w.heap[g]? = some (.cells cs t fr))
    (hu : P.underlying ty = some d) (hd : (match d with | .struct _ | .array _ _ => true | _ => false) = true) (hi : (P.info? ty).map (·.size) = some cs.size) :
    (results fn tmps).run P w = .ok (.tuple #[tmps.getD q undef, tmps.getD r undef, .agg cs, tmps.getD u undef]) w := by
  have hp' : tmps[p]?.getD undef = .pointer (some ⟨g, 0, none⟩) := by simpa using hp
  simp only [results, h]
  simp [Result.andThen, hp', asAddr, run_loadVar_row w g t ty cs fr d hg hu hd hi]

theorem OwnR.apart {e t : TypeId} {w : World} {base g : Nat} {v : Value} {rs : List Rec} {cs : Array Value} (h : OwnR e w base v rs) (hb : Blk w g t cs) (hne : t ≠ e) : some g ≠ v.ownBlock := by
  rcases h.2 with ⟨rfl, _⟩ | ⟨g', cap, cur, rfl, _, hg, _⟩
  · simp [Value.ownBlock]
  · intro he
    simp [Value.ownBlock] at he
    subst he
    have hb' : w.heap[g]? = some (.cells cs t (0, 0)) := hb
    rw [hb'] at hg
    simp only [Option.some.injEq, Obj.cells.injEq] at hg
    exact hne hg.2.1
theorem own_none_or (v : Value) : v.ownBlock = none ∨ ∃ g, v.ownBlock = some g := by cases v.ownBlock <;> simp
theorem OwnR.blk {e : TypeId} {w : World} {base g : Nat} {v : Value} {rs : List Rec} (h : OwnR e w base v rs) (hg : v.ownBlock = some g) : ∃ cs, Blk w g e cs := by
  rcases h.2 with ⟨rfl, _⟩ | ⟨g', cap, cur, rfl, _, hc, _⟩
  · cases hg
  · simp [Value.ownBlock] at hg
    subst hg
    exact ⟨cur, hc⟩
theorem ownS_blk {e : TypeId} {k : IntKind} {w : World} {base g : Nat} {v : Value} {xs : List Int} (h : OwnS e k w base v xs) (hg : v.ownBlock = some g) : ∃ cs, Blk w g e cs := by
  rcases h.2 with ⟨rfl, _⟩ | ⟨g', cap, cur, rfl, _, hc, _⟩
  · cases hg
  · simp [Value.ownBlock] at hg
    subst hg
    exact ⟨cur, hc⟩
theorem OwnR.grown {e : TypeId} {w w' : World} {base : Nat} {v : Value} {rs : List Rec} {row : Option Nat} (h : OwnR e w base v rs) (hg : w.grownBy w' row) (hne : v.ownBlock = none ∨ v.ownBlock ≠ row) : OwnR e w' base v rs := by
  refine ⟨h.1, ?_⟩
  rcases h.2 with h2 | ⟨g', cap, cur, rfl, h1, hc, h3⟩
  · exact .inl h2
  · refine .inr ⟨g', cap, cur, rfl, h1, (hg.block g' (Array.getElem?_eq_some_iff.1 hc).1 ?_).trans hc, h3⟩
    rcases hne with hn | hn
    · cases hn
    · exact hn
theorem ownR_ownS {e t : TypeId} {k : IntKind} {w : World} {b1 b2 : Nat} {v u : Value} {rs : List Rec} {xs : List Int} (h : OwnR e w b1 v rs) (h' : OwnS t k w b2 u xs) (hne : t ≠ e) : v.ownBlock = none ∨ v.ownBlock ≠ u.ownBlock := by
  rcases own_none_or u with hu | ⟨g, hu⟩
  · rcases own_none_or v with hv | ⟨g, hv⟩
    · exact .inl hv
    · right; rw [hu, hv]; simp
  · obtain ⟨cs, hb⟩ := ownS_blk h' hu
    right
    rw [hu]
    exact (h.apart hb hne).symm
theorem ownS_ownR {e t : TypeId} {k : IntKind} {w : World} {b1 b2 : Nat} {v u : Value} {rs : List Rec} {xs : List Int} (h' : OwnS t k w b2 u xs) (h : OwnR e w b1 v rs) (hne : t ≠ e) : u.ownBlock = none ∨ u.ownBlock ≠ v.ownBlock := by
  rcases own_none_or u with hu | ⟨g, hu⟩
  · exact .inl hu
  · obtain ⟨cs, hb⟩ := ownS_blk h' hu
    right
    rw [hu]
    exact h.apart hb hne
theorem ownRow_row {w : World} {base e size n : Nat} {v : Value} {us : List Value} (h : w.ownsRow base e size v n us) {k : Nat} (hk : k < base) (cs : Array Value) : (w.setRow k cs).ownsRow base e size v n us := by
  refine ⟨h.1, ?_⟩
  rcases h.2 with h2 | ⟨g', cap, cur, rfl, h1, hc, h3⟩
  · exact .inl h2
  · exact .inr ⟨g', cap, cur, rfl, h1, (setRow_other w k g' cs (by omega)).trans hc, h3⟩
theorem OwnR.row {e : TypeId} {w : World} {base : Nat} {v : Value} {rs : List Rec} (h : OwnR e w base v rs) {k : Nat} (hk : k < base) (cs : Array Value) : OwnR e (w.setRow k cs) base v rs := ownRow_row h hk cs
theorem ownS_row {e : TypeId} {k' : IntKind} {w : World} {base : Nat} {v : Value} {xs : List Int} (h : OwnS e k' w base v xs) {k : Nat} (hk : k < base) (cs : Array Value) : OwnS e k' (w.setRow k cs) base v xs := ownRow_row h hk cs

theorem OwnR.rowOther {e t : TypeId} {w : World} {base k : Nat} {v : Value} {rs : List Rec} {cs : Array Value} (h : OwnR e w base v rs) (hb : Blk w k t cs) (hne : t ≠ e) (cs' : Array Value) : OwnR e (w.setRow k cs') base v rs := by
  have ha := h.apart hb hne
  refine ⟨h.1, ?_⟩
  rcases h.2 with h2 | ⟨g', cap, cur, rfl, h1, hc, h3⟩
  · exact .inl h2
  · exact .inr ⟨g', cap, cur, rfl, h1, (setRow_other w k g' cs' (by intro e; subst e; exact ha rfl)).trans hc, h3⟩
theorem ownsRow_mono {w : World} {base base' e size n : Nat} {v : Value} {us : List Value} (h : w.ownsRow base e size v n us) (hb : base' ≤ base) : w.ownsRow base' e size v n us := by
  refine ⟨h.1, ?_⟩
  rcases h.2 with h2 | ⟨g', cap, cur, rfl, h1, h3⟩
  · exact .inl h2
  · exact .inr ⟨g', cap, cur, rfl, by omega, h3⟩
theorem own_row_block {w : World} {base e size n : Nat} {v : Value} {us : List Value} (h : w.ownsRow base e size v n us) (j : Nat) (hj : v.ownBlock = some j) : base ≤ j := by
  rcases h.2 with ⟨rfl, _⟩ | ⟨g', cap, cur, rfl, h1, h3⟩
  · cases hj
  · simp [Value.ownBlock] at hj; omega
theorem own_row_blk {w : World} {base e size n : Nat} {v : Value} {us : List Value} (h : w.ownsRow base e size v n us) (hn : 0 < n) : ∃ g cap cur, v = .slice (some ⟨g, 0, none⟩) n cap ∧ base ≤ g ∧ Blk w g e cur ∧ cur.toList.take (n * size) = us := by
  rcases h.2 with ⟨_, h0⟩ | ⟨g', cap, cur, rfl, h1, hc, _, _, _, ht⟩
  · omega
  · exact ⟨g', cap, cur, rfl, h1, hc, ht⟩
theorem nzT_high {h : Nat → Int} {q : Int} : ∀ (n : Nat) (c : Int), 0 ≤ c → c + 256 * n ≤ 1099511627776 → c ≤ (nzT h q n c).2.1 ∧ (nzT h q n c).2.1 ≤ c + 256 * n
  | 0, c, _, _ => by rw [nzT]; simp
  | n + 1, c, h0, h1 => by
    obtain ⟨l1, l2⟩ := numT_low (h := h) (q := q) 256 c 0 (by omega)
    obtain ⟨r1, r2⟩ := numT_range (h := h) (q := q) 256 c 0 h0 (by omega)
    by_cases hz : (numT h q 256 c 0).1 = 0
    · rw [nzT_next l1 hz]
      have := nzT_high (h := h) (q := q) n (numT h q 256 c 0).2.1 (by omega) (by omega)
      omega
    · rw [nzT_num l1 hz]
      dsimp only
      omega
theorem nzn_ex (h : Nat → Int) (c : Int) (h0 : 0 ≤ c) (h1 : c ≤ 1000000) : ∃ n c', nznV h c 11 = .tuple #[drw h c', .int .i64 n, .int .i64 0] ∧ 1 ≤ n ∧ n < 11 ∧ 0 ≤ c' ∧ c' ≤ c + 65536 := by
  have hk : chkE c 11 2 2305843009213693951 = 0 := chk_iff.2 ⟨⟨h0, by omega⟩, by omega, by omega⟩
  obtain ⟨l1, l2, _⟩ := nzT_low (h := h) (q := 11) (by omega) 256 c h0 (by omega)
  obtain ⟨r1, r2⟩ := nzT_high (h := h) (q := 11) 256 c h0 (by omega)
  refine ⟨_, _, by rw [nznV, if_pos hk, l1]; rfl, l2.1, l2.2, by omega, by omega⟩
theorem key_ex (n : Int) (w : World) (hT : Tab w) (h0 : 1 ≤ n) (h1 : n < 11) : Calls Tryd.prog 36 #[bas 23 11 4 2 3 6, .int .i64 n] w fun e w' => e = .returned (.tuple #[bkey (pwi 23 4 n) (pwi 23 2 n) (pwi 23 3 n), .int .i64 0]) ∧ Up w w' := by
  have h := resKey_any 23 11 4 2 3 6 n w (by omega) (by omega) hT
  rw [show bvB 23 11 4 2 3 6 = true by decide +kernel, show nzB 11 n = true from nzB_iff.2 ⟨h0, h1⟩] at h
  exact h

theorem infoDN : (Tryd.prog.info? 66).map (fun i => (i.zero, i.size, i.bytes)) = some (some (.agg #[.int .i64 0, .int .i64 0]), 2, 16) := by kernel_rfl
theorem cloneD_two (v d v2 d2 : Int) (b : Nat) (w : World) (hb : Blk w b 66 #[.int .i64 v, .int .i64 d, .int .i64 v2, .int .i64 d2]) : Calls Tryd.prog 34 #[.slice (some ⟨b, 0, none⟩) 2 2] w fun e w' => ∃ v', e = .returned v' ∧ w'.ownsRow w.heap.size 66 2 v' 2 [.int .i64 v, .int .i64 d, .int .i64 v2, .int .i64 d2] ∧ Up w w' := by
  have HB := hid hb
  have hnil := fun (w : World) => Lib.run_eql_slice_nil (P := Tryd.prog) w 67 66 (some ⟨b, 0, none⟩) 2 2 0 0 Tryd.underlying67
  have h0 : (w.alloc (.cells #[] 66)).ownsRow w.heap.size 66 2 (.slice (some ⟨w.heap.size, 0, none⟩) 0 0) 0 [] := ⟨by simp, .inr ⟨w.heap.size, 0, #[], rfl, Nat.le_refl _, Blk.new rfl rfl, by simp, by unfold maxLen; omega, by simp, by simp⟩⟩
  have H0 := hid h0
  obtain ⟨i0, hi, hz0, hz1, hz2⟩ := info_parts infoDN
  clear hb h0
  go_enter Tryd.func34, Tryd.ntmps34
  go_wp2_with (at_builtin; refine wpList_append_own _ rfl _ _ 67 rfl w.heap.size 66 i0 _ 2 16 Tryd.underlying67 hi hz0 hz1 hz2 rfl (by decide) _ 0 [] rfl H0.out ⟨b, 0, none⟩ 2 2 [.int .i64 v, .int .i64 d, .int .i64 v2, .int .i64 d2] rfl rfl (fun j u hj => by have hq := (HB.out.up ((Up.refl w).alloc (.cells #[] 66))).read j; rw [Addr.add_lit, Nat.zero_add, hq]; simpa using hj) (fun u hu => by simp only [List.mem_cons, List.not_mem_nil, or_false] at hu; rcases hu with rfl | rfl | rfl | rfl <;> rfl) (by unfold maxLen; omega) (by omega) (by simp) ?_; intro v1 w1 hO1 hg1 _)
  have hU1 : Up w w1 := up_grown ((Up.refl w).alloc (.cells #[] 66)) hg1 (fun k hk => by cases hk; exact Nat.le_refl _)
  rw [List.nil_append] at hO1
  go_wp2
  go_ret
  exact ⟨v1, rfl, hO1, hU1⟩

def exV (i : Nat) : Int := if i = 0 then 1 else if i = 1 then 4 else 0
def exD (i : Nat) : Int := if i = 1 then 2 else 0
def exR (i : Nat) (rs : List Rec) : Prop := rs.length = i ∧ ∀ j, j < i → ∃ ka kb kc, rs[j]? = some ⟨1, 5, j, exV j, exD j, ka, kb, kc, 10, 20, 30⟩
theorem exR.app {i : Nat} {rs : List Rec} (h : exR i rs) (ka kb kc : Int) : exR (i + 1) (rs ++ [⟨1, 5, i, exV i, exD i, ka, kb, kc, 10, 20, 30⟩]) := by
  obtain ⟨h1, h2⟩ := h
  refine ⟨by simp [h1], fun j hj => ?_⟩
  by_cases hji : j < i
  · obtain ⟨a, b, c, he⟩ := h2 j hji
    exact ⟨a, b, c, by rw [List.getElem?_append_left (by omega)]; exact he⟩
  · obtain rfl : j = i := by omega
    exact ⟨ka, kb, kc, by rw [List.getElem?_append_right (by omega), h1]; simp⟩
theorem ex_cells {cur : Array Value} (h : cur.toList.take 6 = [.int .i64 1, .int .i64 0, .int .i64 4, .int .i64 2, .int .i64 0, .int .i64 0]) {i : Nat} (hi : i < 3) : cur[i * 2]? = some (.int .i64 (exV i)) ∧ cur[i * 2 + 1]? = some (.int .i64 (exD i)) := by
  have e : ∀ j, j < 6 → cur[j]? = [Value.int .i64 1, .int .i64 0, .int .i64 4, .int .i64 2, .int .i64 0, .int .i64 0][j]? := fun j hj => by
    rw [← h, List.getElem?_take, if_pos hj, Array.getElem?_toList]
  have : i = 0 ∨ i = 1 ∨ i = 2 := by omega
  rcases this with rfl | rfl | rfl
  · exact ⟨e 0 (by omega), e 1 (by omega)⟩
  · exact ⟨e 2 (by omega), e 3 (by omega)⟩
  · exact ⟨e 4 (by omega), e 5 (by omega)⟩

/-- What Make returns at the example. -/
def MakeOut (w : World) (e : Ending) (w' : World) : Prop :=
  (∃ a c a2 c2 D rs, e = .returned (.tuple #[.slice a 3 c, .slice a2 3 c2, .agg D, .int .i64 0]) ∧ D.size = 33 ∧ D.all (·.oneCell') = true ∧ exR 3 rs ∧ OwnR 46 w' w.heap.size (.slice a 3 c) rs) ∧ Up w w'
theorem eMake_ex (b : Nat) (w : World) (hT : Tab w) (hS : TabS w) (hb : Blk w b 66 #[.int .i64 1, .int .i64 0, .int .i64 4, .int .i64 2]) :
    Calls Tryd.prog 13 #[bas 23 11 4 2 3 6, .int .i64 1, .int .i64 5, .slice (some ⟨b, 0, none⟩) 2 2, .int .i64 10, .int .i64 20, .int .i64 30, drw zeroH 0] w (MakeOut w) := by
  have HB := hid hb
  have hZ : Byt zeroH := fun i => by simp [zeroH]
  have M0 := hid (fun w' (hU : Up w w') => bValid_any 23 11 4 2 3 6 w' (by omega) (by omega) (hT.up hU))
  rw [show bvB 23 11 4 2 3 6 = true by decide +kernel] at M0
  have M1 := hid (fun w' (hU : Up w w') => denValid_two 1 0 4 2 b w' (hb.up hU) (by decide +kernel) (by decide +kernel) (by omega))
  have M2 := hid (fun w' => draValid_any zeroH 0 w')
  rw [show dvB 0 = true by decide +kernel] at M2
  have M3 := hid (fun w' => eNumbers_any 1 5 10 20 30 w')
  rw [show enB 1 5 10 20 30 = true by decide +kernel] at M3
  have M4 := hid (fun w' (hU : Up w w') => cloneD_two 1 0 4 2 b w' (hb.up hU))
  have M5 := hid (fun c w' (hU : Up w w') => Nonzero_any zeroH c 11 w' (hS.up hU) hZ)
  have HN := hid (nzn_ex zeroH)
  have M6 := hid (fun n (h0 : 1 ≤ n) (h1 : n < 11) w' (hU : Up w w') => key_ex n w' (hT.up hU) h0 h1)
  obtain ⟨o, ho⟩ : ∃ o, w.heap.size = o := ⟨_, rfl⟩
  have HO := hid ho
  obtain ⟨o1, ho1⟩ : ∃ o1, o + 1 = o1 := ⟨_, rfl⟩
  have HO1 := hid ho1
  obtain ⟨o2, ho2⟩ : ∃ o2, o1 + 1 = o2 := ⟨_, rfl⟩
  have HO2 := hid ho2
  have HSz := hid (sizeDrw zeroH 0)
  have HD0 : Hid (∃ D, drwA zeroH 0 = D) := hid ⟨_, rfl⟩
  unfold drw at M2 ⊢
  clear hT hS hb hZ ho ho1 ho2
  go_enter Tryd.func13, Tryd.ntmps13
  go_wp2_with fail
  refine (M0.out _ ((((Up.refl w).alloc _).alloc _).alloc _)).mono ?_
  rintro e w1 ⟨rfl, hU1⟩
  have HA1 := hid (((Blk.new (w := w) (g := o) (t := 25) (cs := #[.int .i64 23, .int .i64 11, .int .i64 4, .int .i64 2, .int .i64 3, .int .i64 6]) HO.out rfl).up (((Up.refl _).alloc _).alloc _)).up hU1)
  have HD1 := hid (((Blk.new (g := o1) (t := 30) (cs := drwA zeroH 0) (by have := HO.out; have := HO1.out; have := HO2.out; simp; omega) rfl).up ((Up.refl _).alloc _)).up hU1)
  have HZ1 := hid (((Blk.new (g := o2) (t := 30) (by have := HO.out; have := HO1.out; have := HO2.out; simp; omega) zero33)).up hU1)
  have HU1 := hid (((((Up.refl w).alloc _).alloc _).alloc _).trans hU1)
  clear hU1
  rw [HO.out, HO1.out, HO2.out]
  have c0 := HA1.out.val (i := 0) rfl
  have c1 := HA1.out.val (i := 1) rfl
  have c2 := HA1.out.val (i := 2) rfl
  have c3 := HA1.out.val (i := 3) rfl
  have c4 := HA1.out.val (i := 4) rfl
  have c5 := HA1.out.val (i := 5) rfl
  go_wp2_with fail
  refine (M1.out _ (HU1.out)).mono ?_
  rintro e w2 ⟨rfl, hU2⟩
  have HA2 := hid (HA1.out.up hU2)
  have HD2 := hid (HD1.out.up hU2)
  have HZ2 := hid (HZ1.out.up hU2)
  have HU2 := hid (HU1.out.trans hU2)
  clear hU2 HA1 HD1 HZ1 HU1 c0 c1 c2 c3 c4 c5
  have c0 := HA2.out.val (i := 0) rfl
  have c1 := HA2.out.val (i := 1) rfl
  have c2 := HA2.out.val (i := 2) rfl
  have c3 := HA2.out.val (i := 3) rfl
  have c4 := HA2.out.val (i := 4) rfl
  have c5 := HA2.out.val (i := 5) rfl
  go_wp2_with (first | refine wpList_load_row rfl 30 _ rfl o1 rfl 30 (drwA zeroH 0) (0, 0) _ HD2.out Tryd.underlying30 rfl (sizeDrw _ _) ?_ | refine wpList_load_rowG (by rfl) 30 _ rfl o1 rfl 30 (drwA zeroH 0) (0, 0) _ HD2.out Tryd.underlying30 rfl (sizeDrw _ _) ?_)
  refine (M2.out _).mono ?_
  rintro e w3 ⟨rfl, hU3⟩
  have HA3 := hid (HA2.out.up hU3)
  have HD3 := hid (HD2.out.up hU3)
  have HZ3 := hid (HZ2.out.up hU3)
  have HU3 := hid (HU2.out.trans hU3)
  clear hU3 HA2 HD2 HZ2 HU2 c0 c1 c2 c3 c4 c5
  have c0 := HA3.out.val (i := 0) rfl
  have c1 := HA3.out.val (i := 1) rfl
  have c2 := HA3.out.val (i := 2) rfl
  have c3 := HA3.out.val (i := 3) rfl
  have c4 := HA3.out.val (i := 4) rfl
  have c5 := HA3.out.val (i := 5) rfl
  go_wp2_with fail
  refine (M3.out _).mono ?_
  rintro e w4 ⟨rfl, hU4⟩
  have HA4 := hid (HA3.out.up hU4)
  have HD4 := hid (HD3.out.up hU4)
  have HZ4 := hid (HZ3.out.up hU4)
  have HU4 := hid (HU3.out.trans hU4)
  clear hU4 HA3 HD3 HZ3 HU3 c0 c1 c2 c3 c4 c5
  have c0 := HA4.out.val (i := 0) rfl
  have c1 := HA4.out.val (i := 1) rfl
  have c2 := HA4.out.val (i := 2) rfl
  have c3 := HA4.out.val (i := 3) rfl
  have c4 := HA4.out.val (i := 4) rfl
  have c5 := HA4.out.val (i := 5) rfl
  go_wp2_with fail
  refine (M4.out _ HU4.out).mono ?_
  rintro e w5 ⟨v5, rfl, hO5, hU5⟩
  have HA5 := hid (HA4.out.up hU5)
  have HD5 := hid (HD4.out.up hU5)
  have HZ5 := hid (HZ4.out.up hU5)
  have HU5 := hid (HU4.out.trans hU5)
  have hO5a := ownsRow_mono hO5 (base' := o2 + 1) (by have := HZ4.out.lt; omega)
  have hs5 : o2 < w5.heap.size := HZ5.out.lt
  obtain ⟨i0, hi0, hz0, hz1, hz2⟩ := info_parts infoDN
  clear hU5 hO5 HA4 HD4 HZ4 HU4
  go_wp2_with (at_builtin; refine wpList_append_own _ rfl _ _ 67 rfl (o2 + 1) 66 i0 _ 2 16 Tryd.underlying67 hi0 hz0 hz1 hz2 rfl (by decide) _ 2 _ rfl (ownsRow_later hO5a ((Up.refl w5).alloc (.cells #[.int .i64 0, .int .i64 0] 66))) ⟨w5.heap.size, 0, none⟩ 1 1 [.int .i64 0, .int .i64 0] rfl rfl (fun j u hj => by have hq := (Blk.new (w := w5) (g := w5.heap.size) (t := 66) (cs := #[.int .i64 0, .int .i64 0]) rfl rfl).read j; rw [Addr.add_lit, Nat.zero_add, hq]; simpa using hj) (fun u hu => by simp only [List.mem_cons, List.not_mem_nil, or_false] at hu; rcases hu with rfl | rfl <;> rfl) (by unfold maxLen; omega) (by omega) (by simp; omega) ?_; intro v6 w6 hO6 hg6 _; have hB6 := Below.grown (Below.refl (o2 + 1) _) hg6 (by simp; omega) (fun j hj => own_row_block hO5a j hj); obtain ⟨g, cap, cur, rfl, hgb, hG6, hcur⟩ := own_row_blk hO6 (by omega))
  have hA6 := (HA5.out.up ((Up.refl w5).alloc (.cells #[.int .i64 0, .int .i64 0] 66))).below hB6 (by have := HO1.out; have := HO2.out; omega)
  have hD6 := (HD5.out.up ((Up.refl w5).alloc (.cells #[.int .i64 0, .int .i64 0] 66))).below hB6 (by have := HO2.out; omega)
  have hZ6 := (HZ5.out.up ((Up.refl w5).alloc (.cells #[.int .i64 0, .int .i64 0] 66))).below hB6 (by omega)
  have HU6 := hid (up_below (HU5.out.alloc (.cells #[.int .i64 0, .int .i64 0] 66)) hB6 (by have := HO.out; have := HO1.out; have := HO2.out; omega))
  have HA6 := hid hA6
  have HD6 := hid hD6
  have HZ6 := hid hZ6
  have HG6 := hid hG6
  have HC := hid (fun i hi => ex_cells hcur (i := i) hi)
  obtain ⟨B, hBs⟩ : ∃ B, w6.heap.size = B := ⟨_, rfl⟩
  have HBs := hid hBs
  have lB2 : o2 < B := by rw [← hBs]; exact HZ6.out.lt
  have lBg : g < B := by rw [← hBs]; exact HG6.out.lt
  have n12 : o1 < o2 := by have := HO2.out; omega
  have n01 : o < o1 := by have := HO1.out; omega
  have hlw : w.heap.size ≤ o := by have := HO.out; omega
  have hg2 : o2 < g := by omega
  clear hA6 hD6 hZ6 hG6 hcur hB6 hg6 hO6 hO5a HA5 HD5 HZ5 HU5 hBs hgb hs5
  go_loopw [16, 17, 55] (fun v1 v2 vi wr => ∃ (i : Nat) (rs : List Rec) (ss : List Int) (c : Int), i ≤ 3 ∧ vi = .int .i64 i ∧ Hid (exR i rs) ∧ Hid (ss.length = i) ∧ Hid (OwnR 46 wr B v1 rs) ∧ Hid (OwnS 3 .i64 wr B v2 ss) ∧ Hid (0 ≤ c ∧ c ≤ 65536 * i) ∧ Hid (Blk wr o 25 #[.int .i64 23, .int .i64 11, .int .i64 4, .int .i64 2, .int .i64 3, .int .i64 6]) ∧ Hid (Blk wr o1 30 (drwA zeroH c)) ∧ Hid (Blk wr o2 30 (drwA zeroH 0)) ∧ Hid (Blk wr g 66 cur) ∧ Hid (Up w wr) ∧ Hid (B ≤ wr.heap.size)) (fun _ _ vi _ => 3 - (intOf vi).toNat)
  case atStart => exact ⟨0, [], [], 0, by omega, rfl, hid ⟨rfl, fun j hj => by omega⟩, hid rfl, hid ownR_none, hid own_none, hid ⟨by omega, by omega⟩, HA6, HD6, HZ6, HG6, HU6, hid (by rw [HBs.out]; exact Nat.le_refl _)⟩
  case round =>
    clear HA6 HD6 HZ6 HG6 HU6 HBs
    obtain ⟨i, rs, ss, c, hi, rfl, HR, HSl, HOR, HOS, HCc, HA, HD, HZ, HG, HU, HBr⟩ := hrel
    by_cases hl : i < 3
    · have q0 := HG.out.val (HC.out i hl).1
      have q1 := HG.out.val (HC.out i hl).2
      have HRn := hid (fun ka kb kc => HR.out.app ka kb kc)
      obtain ⟨n, c', hV, n0, n1, c0, c1⟩ := HN.out c HCc.out.1 (by have := HCc.out; omega)
      have HM5 := hid (fun w' hU => M5.out c w' hU)
      rw [hV] at HM5
      have HM6 := hid (M6.out n n0 n1)
      have HCn : Hid (0 ≤ c' ∧ c' ≤ 65536 * ((i + 1 : Nat) : Int)) := hid ⟨c0, by have := HCc.out; omega⟩
      have e1 : decide ((i : Int) < 3) = true := by simp; omega
      clear hV n0 n1 c0 c1
      generalize exV i = x at *
      generalize exD i = y at *
      unfold drw at HM5
      obtain ⟨rv, rc, rfl⟩ := HOR.out.shape
      obtain ⟨sv, sc, rfl, _⟩ := HOS.out.shape
      have hS1 := HA.out.val (i := 1) rfl
      have hgr : g < wr.heap.size := HG.out.lt
      have hor : o < wr.heap.size := HA.out.lt
      go_wp2_with (first | refine wpList_load_row rfl 30 _ rfl o1 rfl 30 (drwA zeroH c) (0, 0) _ (HD.out.up ((Up.refl wr).alloc _)) Tryd.underlying30 rfl (sizeDrw _ _) ?_ | refine wpList_load_rowG (by rfl) 30 _ rfl o1 rfl 30 (drwA zeroH c) (0, 0) _ (HD.out.up ((Up.refl wr).alloc _)) Tryd.underlying30 rfl (sizeDrw _ _) ?_)
      refine (HM5.out _ (HU.out.alloc _)).mono ?_
      rintro e w1 ⟨rfl, hU1⟩
      have HX1 := hid ((Blk.new (w := wr) (g := wr.heap.size) (t := 66) (cs := #[.int .i64 x, .int .i64 y]) rfl rfl).up hU1)
      have hUp := ((Up.refl wr).alloc (.cells #[.int .i64 x, .int .i64 y] 66)).trans hU1
      have HA1 := hid (HA.out.up hUp)
      have HD1 := hid (HD.out.up hUp)
      have HZ1 := hid (HZ.out.up hUp)
      have HG1 := hid (HG.out.up hUp)
      have HR1 := hid (HOR.out.up hUp)
      have HS1 := hid (HOS.out.up hUp)
      have HU1 := hid (HU.out.trans hUp)
      have HB1 := hid (Nat.le_trans HBr.out hUp.size)
      obtain ⟨od, hod⟩ : ∃ od, wr.heap.size = od := ⟨_, rfl⟩
      have HOd : Hid (B ≤ od) := hid (by rw [← hod]; exact HBr.out)
      rw [hod] at HX1
      rw [hod]
      clear hU1 hUp hod HA HD HZ HG HOR HOS HU HBr hS1 q0 q1 HR HN
      have k0 := (HA1.out.rowApart (k := o1) (by omega) (drwA zeroH c')).val (i := 0) rfl
      have k1 := (HA1.out.rowApart (k := o1) (by omega) (drwA zeroH c')).val (i := 1) rfl
      have k2 := (HA1.out.rowApart (k := o1) (by omega) (drwA zeroH c')).val (i := 2) rfl
      have k3 := (HA1.out.rowApart (k := o1) (by omega) (drwA zeroH c')).val (i := 3) rfl
      have k4 := (HA1.out.rowApart (k := o1) (by omega) (drwA zeroH c')).val (i := 4) rfl
      have k5 := (HA1.out.rowApart (k := o1) (by omega) (drwA zeroH c')).val (i := 5) rfl
      go_wp2_with (refine wpList_store_rowTo rfl 30 _ _ rfl rfl o1 (drwA zeroH c') rfl rfl 30 (drwA zeroH c) HD1.out (sizeDrw _ _) (by rw [drwA_size, drwA_size]) (drwA_one _ _) ?_)
      have HX2 := hid (HX1.out.rowApart (k := o1) (by have := HOd.out; omega) (drwA zeroH c'))
      have HA2 := hid (HA1.out.rowApart (k := o1) (by omega) (drwA zeroH c'))
      have HD2 := hid (HD1.out.row (drwA zeroH c'))
      have HZ2 := hid (HZ1.out.rowApart (k := o1) (by omega) (drwA zeroH c'))
      have HG2 := hid (HG1.out.rowApart (k := o1) (by omega) (drwA zeroH c'))
      have HR2 := hid (HR1.out.row (k := o1) (by omega) (drwA zeroH c'))
      have HS2 := hid (ownS_row HS1.out (k := o1) (by omega) (drwA zeroH c'))
      have HU2 := hid (HU1.out.setRow (g := o1) (by omega) (drwA zeroH c'))
      have HB2 : Hid (B ≤ (w1.setRow o1 (drwA zeroH c')).heap.size) := hid (by have := HD2.out.lt; have := HX2.out.lt; have := HOd.out; omega)
      clear HX1 HA1 HD1 HZ1 HG1 HR1 HS1 HU1 HB1 k0 k1 k2 k3 k4 k5
      generalize w1.setRow o1 (drwA zeroH c') = w2 at *
      refine (HM6.out _ HU2.out).mono ?_
      rintro e w3 ⟨rfl, hU3⟩
      have HX3 := hid (HX2.out.up hU3)
      have HA3 := hid (HA2.out.up hU3)
      have HD3 := hid (HD2.out.up hU3)
      have HZ3 := hid (HZ2.out.up hU3)
      have HG3 := hid (HG2.out.up hU3)
      have HR3 := hid (HR2.out.up hU3)
      have HS3 := hid (HS2.out.up hU3)
      have HU3 := hid (HU2.out.trans hU3)
      have HB3 := hid (Nat.le_trans HB2.out hU3.size)
      clear hU3 HX2 HA2 HD2 HZ2 HG2 HR2 HS2 HU2 HB2
      generalize pwi 23 4 n = X at *
      generalize pwi 23 2 n = Y at *
      generalize pwi 23 3 n = V at *
      have x0 := HX3.out.val (i := 0) rfl
      have x1 := HX3.out.val (i := 1) rfl
      have hlod : od < w3.heap.size := HX3.out.lt
      obtain ⟨W4, hW4⟩ : ∃ W4, (w3.alloc (.cells #[.int .i64 X, .int .i64 Y, .int .i64 V] 44)).alloc (.cells #[.int .i64 1, .int .i64 5, .int .i64 i, .int .i64 x, .int .i64 y, .int .i64 X, .int .i64 Y, .int .i64 V, .int .i64 10, .int .i64 20, .int .i64 30] 46) = W4 := ⟨_, rfl⟩
      have HW4 := hid hW4
      have hUw : Up w3 W4 := by rw [← hW4]; exact ((Up.refl w3).alloc _).alloc _
      have hNB : Blk W4 (w3.heap.size + 1) 46 (epoA 1 5 i x y X Y V 10 20 30) := by rw [← hW4]; exact Blk.new (by simp) rfl
      have HNB := hid hNB
      have HUw := hid hUw
      have HLr : Hid (rs.length ≤ 3) := hid (by have := HRn.out 0 0 0; have := this.1; simp at this; omega)
      have hB4 : B ≤ W4.heap.size := Nat.le_trans HB3.out hUw.size
      clear hW4 hUw hNB
      go_wp2_with (first
        | (rw [HW4.out]; at_builtin; refine wp_appR Tryd.underlying26 rfl _ _ rfl B (news := [⟨1, 5, i, x, y, X, Y, V, 10, 20, 30⟩]) rfl (HR3.out.up HUw.out) (w3.heap.size + 1) 0 1 rfl (fun j hj => by (obtain rfl : j = 0 := (by simp at hj; omega)); exact Blk.recAt HNB.out) (by have := HLr.out; simp; omega) hB4 ?_; intro v5 w5 hO5 hg5; have hB5 := OwnR.below (HR3.out.up HUw.out) hg5 hB4; have hA5 := (HA3.out.up HUw.out).below hB5 (by omega); have hD5 := (HD3.out.up HUw.out).below hB5 (by omega); have hZ5 := (HZ3.out.up HUw.out).below hB5 (by omega); have hG5 := (HG3.out.up HUw.out).below hB5 lBg; have hS5 := (HS3.out.up HUw.out).grown hg5 (ownS_ownR (HS3.out.up HUw.out) (HR3.out.up HUw.out) (by decide)); have hU5 := up_below (HU3.out.trans HUw.out) hB5 (by omega); have hs5 : B ≤ w5.heap.size := Nat.le_trans hB4 hg5.size)
        | (at_builtin; refine wp_app infoInt Tryd.underlying62 (by omega) rfl _ _ rfl B rfl rfl (hS5.up ((Up.refl w5).alloc _)) (seq_new w5 n 3) (by have := HSl.out; simp; omega) (by simp; omega) ?_; intro v6 w6 hO6 hg6; have hB6 := below_own (hS5.up ((Up.refl w5).alloc (.cells #[.int .i64 n] 3))) hg6 (by simp; omega)))
      have HA6 := hid ((hA5.up ((Up.refl w5).alloc (.cells #[.int .i64 n] 3))).below hB6 (by omega))
      have HD6 := hid ((hD5.up ((Up.refl w5).alloc (.cells #[.int .i64 n] 3))).below hB6 (by omega))
      have HZ6 := hid ((hZ5.up ((Up.refl w5).alloc (.cells #[.int .i64 n] 3))).below hB6 (by omega))
      have HG6 := hid ((hG5.up ((Up.refl w5).alloc (.cells #[.int .i64 n] 3))).below hB6 lBg)
      have HR6 := hid ((hO5.up ((Up.refl w5).alloc (.cells #[.int .i64 n] 3))).grown hg6 (ownR_ownS (hO5.up ((Up.refl w5).alloc (.cells #[.int .i64 n] 3))) (hS5.up ((Up.refl w5).alloc (.cells #[.int .i64 n] 3))) (by decide)))
      have HS6 := hid hO6
      have HU6 := hid (up_below (hU5.alloc (.cells #[.int .i64 n] 3)) hB6 (by omega))
      have HB6 : Hid (B ≤ w6.heap.size) := hid (Nat.le_trans hs5 (Nat.le_trans (by simp) hg6.size))
      have HRe := hid (HRn.out X Y V)
      have HSe : Hid ((ss ++ [n]).length = i + 1) := hid (by have := HSl.out; simp; omega)
      clear hO5 hg5 hB5 hA5 hD5 hZ5 hG5 hS5 hU5 hs5 hO6 hg6 hB6 hB4 x0 x1
      go_roundw
      case rel => exact ⟨i + 1, _, _, c', by omega, by go_num, HRe, HSe, HR6, HS6, HCn, HA6, HD6, HZ6, HG6, HU6, HB6⟩
      case measure => simp [intOf]; omega
    · obtain rfl : i = 3 := by omega
      obtain ⟨rv, rc, hrv⟩ := HOR.out.shape
      obtain ⟨sv, sc, hsv, _⟩ := HOS.out.shape
      have hr3 : rs.length = 3 := HR.out.1
      have hs3 : ss.length = 3 := HSl.out
      rw [hr3] at hrv
      rw [hs3] at hsv
      subst hrv hsv
      have HRr := hid (HOR.out.mono (base' := w.heap.size) (by omega))
      clear hr3 hs3
      go_wp2_with fail
      refine region_E (fun w' => Blk w' o1 30 (drwA zeroH c)) 6 (by kernel_rfl) (HD.out.up (Up.refl _).drew) fun hS => ?_
      have hZ0 := HZ.out.up (Up.refl wr).drew
      have hU0 := HU.out.drew
      have hR0 := HRr.out.up (Up.refl wr).drew
      generalize wr.drew = v0 at *
      refine anyE_take (i := 0) (v := ?_) 103 rfl rfl (by kernel_rfl) (by kernel_rfl) (by decide) (fun _ _ _ h => h) (by kernel_rfl) (by kernel_rfl) (.inl ⟨by rfl, fun u hu => ?_⟩) hS ?_
      rotate_left
      · (go_simp; first | done | with_reducible rfl)
      simp only [Act.put, List.setIfInBounds_toArray, List.set_cons_zero, List.set_cons_succ]
      refine anyE_take (i := 1) (v := ?_) 104 rfl rfl (by kernel_rfl) (by kernel_rfl) (by decide) (fun _ _ _ h => h) (by kernel_rfl) (by kernel_rfl) (.inl ⟨by rfl, fun u hu => ?_⟩) hS ?_
      rotate_left
      · (go_simp; first | done | with_reducible rfl)
      simp only [Act.put, List.setIfInBounds_toArray, List.set_cons_zero, List.set_cons_succ]
      refine anyE_take (i := 2) (v := .agg (drwA zeroH c).toList.toArray) 105 rfl rfl (by kernel_rfl) (by kernel_rfl) (by decide) (fun _ _ _ h => h) (by kernel_rfl) (by kernel_rfl) (yieldsIf_load_mid (by rfl) 30 _ rfl o1 0 rfl (drwA zeroH c).toList _ (fun u hu => blk_range hu) Tryd.underlying30 rfl (by rw [Array.length_toList]; exact sizeDrw _ _)) hS ?_
      rw [Array.toArray_toList]
      simp only [Act.put, List.setIfInBounds_toArray, List.set_cons_zero, List.set_cons_succ]
      refine anyE_take (i := 3) (v := ?_) 16 rfl rfl (by kernel_rfl) (by kernel_rfl) (by decide) (fun _ _ _ h => h) (by kernel_rfl) (by kernel_rfl) (.inl ⟨by rfl, fun u hu => ?_⟩) hS ?_
      rotate_left
      · (go_simp; first | done | with_reducible rfl)
      simp only [Act.put, List.setIfInBounds_toArray, List.set_cons_zero, List.set_cons_succ]
      refine anyE_take (i := 4) (v := ?_) 17 rfl rfl (by kernel_rfl) (by kernel_rfl) (by decide) (fun _ _ _ h => h) (by kernel_rfl) (by kernel_rfl) (.inl ⟨by rfl, fun u hu => ?_⟩) hS ?_
      rotate_left
      · (go_simp; first | done | with_reducible rfl)
      simp only [Act.put, List.setIfInBounds_toArray, List.set_cons_zero, List.set_cons_succ]
      refine anyE_one (i := 5) rfl (by kernel_rfl) rfl (fun K hK => ?_)
      refine op_store_row 30 _ _ rfl rfl o2 (drwA zeroH c) rfl rfl 30 (drwA zeroH 0) hZ0 (sizeDrw _ _) (by rw [drwA_size, drwA_size]) (drwA_one _ _) ?_
      have hS2 := hS.rowApart (k := o2) (by omega) (drwA zeroH c)
      refine hK.out _ _ (.inr hS2) ?_
      clear hK
      try simp only [Act.put, List.setIfInBounds_toArray, List.set_cons_zero, List.set_cons_succ]
      refine anyE_one (i := 6) rfl (by kernel_rfl) rfl (fun K hK => ?_)
      go_simp
      refine hK.out _ _ (.inl rfl) (anyE_done (by kernel_rfl) ?_ _)
      clear hK
      go_wp2
      refine bodyPost_ret (results_tmp2_row_tmp Tryd.results13 _ _ o2 30 _ (0, 0) _ (by rfl) (hZ0.row _) Tryd.underlying30 rfl (sizeDrw _ _)) rfl ⟨⟨_, _, _, _, _, _, rfl, drwA_size _ _, drwA_one _ _, HR.out, hR0.rowOther hZ0 (by decide) _⟩, hU0.setRow (by omega) _⟩
end Go.Proofs.YtkimojconidhlaaDoor
namespace Go.Proofs.YtkimojconidhlaaDoor
open Go.RowKit Go.Sp
set_option maxHeartbeats 4000000
set_option maxRecDepth 20000

theorem ex_three {rs : List Rec} (h : exR 3 rs) : ∃ a0 b0 c0 a1 b1 c1 a2 b2 c2, rs = [⟨1, 5, 0, 1, 0, a0, b0, c0, 10, 20, 30⟩, ⟨1, 5, 1, 4, 2, a1, b1, c1, 10, 20, 30⟩, ⟨1, 5, 2, 0, 0, a2, b2, c2, 10, 20, 30⟩] := by
  obtain ⟨h1, h2⟩ := h
  obtain ⟨a0, b0, c0, e0⟩ := h2 0 (by omega)
  obtain ⟨a1, b1, c1, e1⟩ := h2 1 (by omega)
  obtain ⟨a2, b2, c2, e2⟩ := h2 2 (by omega)
  refine ⟨a0, b0, c0, a1, b1, c1, a2, b2, c2, ?_⟩
  match rs, h1, e0, e1, e2 with
  | [x, y, z], _, e0, e1, e2 =>
    simp only [List.getElem?_cons_zero, List.getElem?_cons_succ, Option.some.injEq] at e0 e1 e2
    rw [e0, e1, e2]
    rfl
theorem awake30 (w : World) (hT : Tab w) (hS : TabS w) : Calls Tryd.prog 4 #[] w fun e w' => e = .returned (.bool true) ∧ Up w w' := by
  have M1 := hid (fun b w' (hU : Up w w') (hb : Blk w' b 66 #[.int .i64 1, .int .i64 0, .int .i64 4, .int .i64 2]) => eMake_ex b w' (hT.up hU) (hS.up hU) hb)
  have N0 := hid (fun a b c w' => eIssues_any 1 5 0 1 0 a b c 10 20 30 10 w')
  rw [show (decide ((10 : Int) ≤ 10) && decide ((10 : Int) < 20)) = true by decide] at N0
  unfold epo epoA at N0
  have N1 := hid (fun a b c w' => eIssues_any 1 5 0 1 0 a b c 10 20 30 19 w')
  rw [show (decide ((10 : Int) ≤ 19) && decide ((19 : Int) < 20)) = true by decide] at N1
  unfold epo epoA at N1
  have N2 := hid (fun a b c w' => eIssues_any 1 5 0 1 0 a b c 10 20 30 20 w')
  rw [show (decide ((10 : Int) ≤ 20) && decide ((20 : Int) < 20)) = false by decide] at N2
  unfold epo epoA at N2
  have N3 := hid (fun a b c w' => eIssues_any 1 5 0 1 0 a b c 10 20 30 9 w')
  rw [show (decide ((10 : Int) ≤ 9) && decide ((9 : Int) < 20)) = false by decide] at N3
  unfold epo epoA at N3
  have N4 := hid (fun a b c w' => eAccepts_any 1 5 0 1 0 a b c 10 20 30 29 w')
  rw [show (decide ((10 : Int) ≤ 29) && decide ((29 : Int) < 30)) = true by decide] at N4
  unfold epo epoA at N4
  have N5 := hid (fun a b c w' => eAccepts_any 1 5 0 1 0 a b c 10 20 30 30 w')
  rw [show (decide ((10 : Int) ≤ 30) && decide ((30 : Int) < 30)) = false by decide] at N5
  unfold epo epoA at N5
  have HZ := zero33
  clear hT hS
  go_enter Tryd.func4, Tryd.ntmps4
  unfold drw at M1
  rw [← HZ] at M1
  clear HZ
  go_wp2_with fail
  refine (M1.out _ _ (((Up.refl w).alloc _).alloc _) (Blk.new (by simp) rfl)).mono ?_
  rintro e w1 ⟨⟨a, c, a2, c2, D, rs, rfl, hD, hD1, hR, hO⟩, hU1⟩
  have HU1 := hid ((((Up.refl w).alloc _).alloc _).trans hU1)
  obtain ⟨a0, b0, c0, a1, b1, c1, a2', b2, c2', rfl⟩ := ex_three hR
  obtain ⟨g, cap, cur, hv, hg, hG, _⟩ := own_row_blk hO (by simp)
  injection hv with h1 h2 h3
  subst h1 h3
  have hq := fun j hj => World.ownsRow.cellAt hO j hj
  obtain ⟨w2, hw2⟩ : ∃ w2, w1.alloc (.cells D 30) = w2 := ⟨_, rfl⟩
  have HW2 := hid hw2
  have hUw : Up w1 w2 := by rw [← hw2]; exact (Up.refl w1).alloc _
  have hgl : g < w1.heap.size := hG.lt
  have hq2 := fun j (hj : j < 33) => (hUw.cell (a := ⟨g, j, none⟩) hgl).trans (hq j hj)
  have q0 : w2.cell? ⟨g, 0, none⟩ = some (.int .i64 1) := hq2 0 (by omega)
  have q1 : w2.cell? ⟨g, 1, none⟩ = some (.int .i64 5) := hq2 1 (by omega)
  have q2 : w2.cell? ⟨g, 2, none⟩ = some (.int .i64 0) := hq2 2 (by omega)
  have q3 : w2.cell? ⟨g, 3, none⟩ = some (.int .i64 1) := hq2 3 (by omega)
  have q4 : w2.cell? ⟨g, 4, none⟩ = some (.int .i64 0) := hq2 4 (by omega)
  have q5 : w2.cell? ⟨g, 5, none⟩ = some (.int .i64 a0) := hq2 5 (by omega)
  have q6 : w2.cell? ⟨g, 6, none⟩ = some (.int .i64 b0) := hq2 6 (by omega)
  have q7 : w2.cell? ⟨g, 7, none⟩ = some (.int .i64 c0) := hq2 7 (by omega)
  have q8 : w2.cell? ⟨g, 8, none⟩ = some (.int .i64 10) := hq2 8 (by omega)
  have q9 : w2.cell? ⟨g, 9, none⟩ = some (.int .i64 20) := hq2 9 (by omega)
  have q10 : w2.cell? ⟨g, 10, none⟩ = some (.int .i64 30) := hq2 10 (by omega)
  have q14 : w2.cell? ⟨g, 14, none⟩ = some (.int .i64 4) := hq2 14 (by omega)
  have q15 : w2.cell? ⟨g, 15, none⟩ = some (.int .i64 2) := hq2 15 (by omega)
  have q24 : w2.cell? ⟨g, 24, none⟩ = some (.int .i64 2) := hq2 24 (by omega)
  have q25 : w2.cell? ⟨g, 25, none⟩ = some (.int .i64 0) := hq2 25 (by omega)
  have q26 : w2.cell? ⟨g, 26, none⟩ = some (.int .i64 0) := hq2 26 (by omega)
  have HU2a := hid (HU1.out.trans hUw)
  have HDz : Hid ((Tryd.prog.info? 30).map (·.size) = some D.size) := hid (by rw [hD]; kernel_rfl)
  have HD := hid hD
  have HD1 := hid hD1
  have hgl2 : g < w2.heap.size := Nat.lt_of_lt_of_le hgl hUw.size
  clear hq hq2 hw2 hUw hR hO hU1 hD hD1 h2 hG hg hgl HU1 M1
  go_wp2_with (refine wpList_store_rowTo rfl 30 _ _ rfl rfl _ D rfl rfl 30 _ (heap_alloc_new _ _) HDz.out (by rw [HD.out]; rfl) HD1.out ?_; rw [World.setRow_alloc_new, HW2.out])
  refine (N0.out _ _ _ _).mono ?_
  rintro e w1 ⟨rfl, hU1⟩
  have HR1 := hid ((Blk.new (w := w2) (t := 46) (cs := #[.int .i64 1, .int .i64 5, .int .i64 0, .int .i64 1, .int .i64 0, .int .i64 a0, .int .i64 b0, .int .i64 c0, .int .i64 10, .int .i64 20, .int .i64 30]) rfl rfl).up hU1)
  have HU1 := hid (((Up.refl w2).alloc _).trans hU1)
  clear hU1
  clear q0 q1 q2 q3 q4 q5 q6 q7 q8 q9 q10 q14 q15 q24 q25 q26
  have r0 := HR1.out.val (i := 0) rfl
  have r1 := HR1.out.val (i := 1) rfl
  have r2 := HR1.out.val (i := 2) rfl
  have r3 := HR1.out.val (i := 3) rfl
  have r4 := HR1.out.val (i := 4) rfl
  have r5 := HR1.out.val (i := 5) rfl
  have r6 := HR1.out.val (i := 6) rfl
  have r7 := HR1.out.val (i := 7) rfl
  have r8 := HR1.out.val (i := 8) rfl
  have r9 := HR1.out.val (i := 9) rfl
  have r10 := HR1.out.val (i := 10) rfl
  go_wp2_with fail
  refine (N1.out _ _ _ _).mono ?_
  rintro e w2 ⟨rfl, hU2⟩
  have HR2 := hid (HR1.out.up hU2)
  have HU2 := hid (HU1.out.trans hU2)
  clear hU2 HR1 HU1 r0 r1 r2 r3 r4 r5 r6 r7 r8 r9 r10
  have r0 := HR2.out.val (i := 0) rfl
  have r1 := HR2.out.val (i := 1) rfl
  have r2 := HR2.out.val (i := 2) rfl
  have r3 := HR2.out.val (i := 3) rfl
  have r4 := HR2.out.val (i := 4) rfl
  have r5 := HR2.out.val (i := 5) rfl
  have r6 := HR2.out.val (i := 6) rfl
  have r7 := HR2.out.val (i := 7) rfl
  have r8 := HR2.out.val (i := 8) rfl
  have r9 := HR2.out.val (i := 9) rfl
  have r10 := HR2.out.val (i := 10) rfl
  go_wp2_with fail
  refine (N2.out _ _ _ _).mono ?_
  rintro e w3 ⟨rfl, hU3⟩
  have HR3 := hid (HR2.out.up hU3)
  have HU3 := hid (HU2.out.trans hU3)
  clear hU3 HR2 HU2 r0 r1 r2 r3 r4 r5 r6 r7 r8 r9 r10
  have r0 := HR3.out.val (i := 0) rfl
  have r1 := HR3.out.val (i := 1) rfl
  have r2 := HR3.out.val (i := 2) rfl
  have r3 := HR3.out.val (i := 3) rfl
  have r4 := HR3.out.val (i := 4) rfl
  have r5 := HR3.out.val (i := 5) rfl
  have r6 := HR3.out.val (i := 6) rfl
  have r7 := HR3.out.val (i := 7) rfl
  have r8 := HR3.out.val (i := 8) rfl
  have r9 := HR3.out.val (i := 9) rfl
  have r10 := HR3.out.val (i := 10) rfl
  go_wp2_with fail
  refine (N3.out _ _ _ _).mono ?_
  rintro e w4 ⟨rfl, hU4⟩
  have HR4 := hid (HR3.out.up hU4)
  have HU4 := hid (HU3.out.trans hU4)
  clear hU4 HR3 HU3 r0 r1 r2 r3 r4 r5 r6 r7 r8 r9 r10
  have r0 := HR4.out.val (i := 0) rfl
  have r1 := HR4.out.val (i := 1) rfl
  have r2 := HR4.out.val (i := 2) rfl
  have r3 := HR4.out.val (i := 3) rfl
  have r4 := HR4.out.val (i := 4) rfl
  have r5 := HR4.out.val (i := 5) rfl
  have r6 := HR4.out.val (i := 6) rfl
  have r7 := HR4.out.val (i := 7) rfl
  have r8 := HR4.out.val (i := 8) rfl
  have r9 := HR4.out.val (i := 9) rfl
  have r10 := HR4.out.val (i := 10) rfl
  go_wp2_with fail
  refine (N4.out _ _ _ _).mono ?_
  rintro e w5 ⟨rfl, hU5⟩
  have HR5 := hid (HR4.out.up hU5)
  have HU5 := hid (HU4.out.trans hU5)
  clear hU5 HR4 HU4 r0 r1 r2 r3 r4 r5 r6 r7 r8 r9 r10
  have r0 := HR5.out.val (i := 0) rfl
  have r1 := HR5.out.val (i := 1) rfl
  have r2 := HR5.out.val (i := 2) rfl
  have r3 := HR5.out.val (i := 3) rfl
  have r4 := HR5.out.val (i := 4) rfl
  have r5 := HR5.out.val (i := 5) rfl
  have r6 := HR5.out.val (i := 6) rfl
  have r7 := HR5.out.val (i := 7) rfl
  have r8 := HR5.out.val (i := 8) rfl
  have r9 := HR5.out.val (i := 9) rfl
  have r10 := HR5.out.val (i := 10) rfl
  go_wp2_with fail
  refine (N5.out _ _ _ _).mono ?_
  rintro e w6 ⟨rfl, hU6⟩
  have HR6 := hid (HR5.out.up hU6)
  have HU6 := hid (HU5.out.trans hU6)
  clear hU6 HR5 HU5 r0 r1 r2 r3 r4 r5 r6 r7 r8 r9 r10
  have r0 := HR6.out.val (i := 0) rfl
  have r1 := HR6.out.val (i := 1) rfl
  have r2 := HR6.out.val (i := 2) rfl
  have r3 := HR6.out.val (i := 3) rfl
  have r4 := HR6.out.val (i := 4) rfl
  have r5 := HR6.out.val (i := 5) rfl
  have r6 := HR6.out.val (i := 6) rfl
  have r7 := HR6.out.val (i := 7) rfl
  have r8 := HR6.out.val (i := 8) rfl
  have r9 := HR6.out.val (i := 9) rfl
  have r10 := HR6.out.val (i := 10) rfl
  go_wp2
  go_ret
  exact ⟨rfl, HU2a.out.trans HU6.out⟩
end Go.Proofs.YtkimojconidhlaaDoor
