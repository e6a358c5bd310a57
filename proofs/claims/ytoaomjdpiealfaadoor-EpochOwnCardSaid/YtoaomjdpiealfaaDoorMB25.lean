/- Package signature: Sign. -/
import Derived.Test.YtoaomjdpiealfaaDoorMB24
import Derived.Test.YtoaomjdpiealfaaDoorMB16
import Derived.Test.YtoaomjdpiealfaaDoorMB19
namespace Go.Proofs.YtoaomjdpiealfaaDoor
open Go.RowKit Go.Sp
set_option maxHeartbeats 4000000
set_option maxRecDepth 20000

theorem results_row_row_tmp {P : Program} {fn : Func} {p q u : Tmp} {ty ty2 : TypeId} (h : fn.results = #[.cell p ty, .cell q ty2, .tmp u]) (tmps : Array Value) (w : World) (g g2 : Nat) (t t2 : TypeId) (cs cs2 : Array Value) (fr fr2 : Nat × Nat) (d d2 : TypeDesc)
    (hp : tmps.getD p undef = .pointer (some ⟨g, 0, none⟩)) (hg : w.heap[g]? = some (.cells cs t fr)) (hu : P.underlying ty = some d) (hd : (match d with | .struct _ | .array _ _ => true | _ => false) = true) (hi : (P.info? ty).map (·.size) = some cs.size)
    (hq : tmps.getD q undef = .pointer (some ⟨g2, 0, none⟩)) (hg2 : w.heap[g2]? = some (.cells cs2 t2 fr2)) (hu2 : P.underlying ty2 = some d2) (hd2 : (match d2 with | .struct _ | .array _ _ => true | _ => false) = true) (hi2 : (P.info? ty2).map (·.size) = some cs2.size) :
    (results fn tmps).run P w = .ok (.tuple #[.agg cs, .agg cs2, tmps.getD u undef]) w := by
  have hp' : tmps[p]?.getD undef = .pointer (some ⟨g, 0, none⟩) := by simpa using hp
  have hq' : tmps[q]?.getD undef = .pointer (some ⟨g2, 0, none⟩) := by simpa using hq
  simp only [results, h]
  simp [Result.andThen, hp', hq', asAddr, run_loadVar_row w g t ty cs fr d hg hu hd hi, run_loadVar_row w g2 t2 ty2 cs2 fr2 d2 hg2 hu2 hd2 hi2]

theorem op_builtS {P : Program} {o : Oper} {a : Act} {w : World} {K : Act → World → Prop} {Q : Exit → Act → World → Prop} (t : TypeId) (parts : Array (Nat × Operand)) (ho : o.op = .build t parts)
    (d : Option Tmp) (hd : o.dst = d) (cells : Array Value) (hf : P.built t (parts.map fun (i, x) => (i, a.eval x)).toList = some cells) (h : K (a.put d (.agg cells)) w) : o.wp P a w K Q := by
  subst hd
  refine wp_build t parts ho (by rw [hf]; rfl) ?_
  rw [hf]
  exact h

theorem sizeSig (a b : Int) : (Tryd.prog.info? 48).map (·.size) = some (#[Value.int .i64 a, Value.int .i64 b]).size := by kernel_rfl

theorem sigFail_any (E : Int) (w : World) : Calls Tryd.prog 62 #[.int .i64 E] w fun e w' => e = .returned (.tuple #[.agg #[.int .i64 0, .int .i64 0], .agg (drwA zeroH 0), .int .i64 E]) ∧ Up w w' := by
  go_enter Tryd.func62, Tryd.ntmps62
  have hB0 := (Blk.new (w := w) (g := w.heap.size) (t := 48) (cs := #[.int .i64 0, .int .i64 0]) rfl rfl).alloc (.cells #[.int .u8 0, .int .u8 0, .int .u8 0, .int .u8 0, .int .u8 0, .int .u8 0, .int .u8 0, .int .u8 0, .int .u8 0, .int .u8 0, .int .u8 0, .int .u8 0, .int .u8 0, .int .u8 0, .int .u8 0, .int .u8 0, .int .u8 0, .int .u8 0, .int .u8 0, .int .u8 0, .int .u8 0, .int .u8 0, .int .u8 0, .int .u8 0, .int .u8 0, .int .u8 0, .int .u8 0, .int .u8 0, .int .u8 0, .int .u8 0, .int .u8 0, .int .u8 0, .int .i64 0] 45)
  have hB1 := Blk.new (w := w.alloc (.cells #[.int .i64 0, .int .i64 0] 48)) (t := 45) (g := w.heap.size + 1) (by simp) zero33
  have hU0 := (((Up.refl w).alloc (.cells #[.int .i64 0, .int .i64 0] 48)).alloc (.cells #[.int .u8 0, .int .u8 0, .int .u8 0, .int .u8 0, .int .u8 0, .int .u8 0, .int .u8 0, .int .u8 0, .int .u8 0, .int .u8 0, .int .u8 0, .int .u8 0, .int .u8 0, .int .u8 0, .int .u8 0, .int .u8 0, .int .u8 0, .int .u8 0, .int .u8 0, .int .u8 0, .int .u8 0, .int .u8 0, .int .u8 0, .int .u8 0, .int .u8 0, .int .u8 0, .int .u8 0, .int .u8 0, .int .u8 0, .int .u8 0, .int .u8 0, .int .u8 0, .int .i64 0] 45))
  go_wp2_with (first
    | (refine wpList_store_rowTo rfl 48 _ _ rfl rfl w.heap.size #[.int .i64 0, .int .i64 0] rfl rfl 48 #[.int .i64 0, .int .i64 0] hB0 (sizeSig 0 0) rfl (by first | kernel_rfl | simp [Value.oneCell']) ?_)
    | (refine wpList_store_rowTo rfl 45 _ _ rfl rfl (w.heap.size + 1) (drwA zeroH 0) rfl (congrArg Value.agg zero33) 45 (drwA zeroH 0) (hB1.rowApart (show w.heap.size + 1 ≠ w.heap.size by omega) _) (sizeDrw _ _) rfl (drwA_one _ _) ?_))
  refine bodyPost_ret (results_row_row_tmp Tryd.results62 _ _ w.heap.size (w.heap.size + 1) 48 45 _ _ (0, 0) (0, 0) _ _ (by rfl) ((hB0.row _).rowApart (by omega) _) Tryd.underlying48 rfl (sizeSig 0 0) (by rfl) ((hB1.rowApart (by omega) _).row _) Tryd.underlying45 rfl (sizeDrw _ _)) rfl ⟨rfl, (hU0.setRow (Nat.le_refl _) _).setRow (by omega) _⟩

theorem nxt_cases {h : Nat → Int} {c Q : Int} (hd : dvB c = true) (q0 : 1 ≤ Q) (q1 : Q < 2305843009213693952) : ∃ D n f, nxtV h c Q = .tuple #[.agg D, .int .i64 n, .int .i64 f] ∧ D.size = 33 ∧ D.all (·.oneCell') = true ∧ (f = 0 → 0 ≤ n ∧ n < Q) := by
  have hk : chkE c Q 1 2305843009213693951 = 0 := chk_iff.2 ⟨dvB_iff.1 hd, q0, by omega⟩
  rw [nxtV, if_pos hk]
  have hn := numT_in (h := h) (q := Q) q0 256 c 0
  generalize numT h Q 256 c 0 = t at *
  obtain ⟨n, c', F⟩ := t
  cases F
  · exact ⟨drwA h c', n, 0, rfl, drwA_size _ _, drwA_one _ _, fun _ => hn rfl⟩
  · exact ⟨drwA zeroH 0, n, 5, rfl, drwA_size _ _, drwA_one _ _, fun h => by cases h⟩

def SgnOut (P Q G x : Int) (m : List Int) (w : World) (e : Ending) (w' : World) : Prop :=
  (∃ C S D E, e = .returned (.tuple #[.agg #[.int .i64 C, .int .i64 S], .agg D, .int .i64 E]) ∧ D.size = 33 ∧ D.all (·.oneCell') = true ∧ (E = 0 → exB Q C = true ∧ exB Q S = true ∧ verS P Q G (pwi P G x) m C S = true) ∧ (E ≠ 0 → C = 0 ∧ S = 0)) ∧ Up w w'

theorem sigSign_ok (P Q G x c : Int) (h : Nat → Int) (v : Value) (m : List Int) (w : World) (hP : -9223372036854775808 ≤ P) (hQ : Q ≤ 9223372036854775807) (hT : Tab w) (hS : TabS w) (hg : gvB P Q G = true) (hx : exB Q x = true) (hB : Byt h) (hv : SeqAt .u8 w v m) (hm : ∀ x ∈ m, 0 ≤ x ∧ x ≤ 255) (hl : m.length ≤ 16384) :
    Calls Tryd.prog 43 #[grp P Q G, .int .i64 x, v, drw h c] w (SgnOut P Q G x m w) := by
  have g := gv_iff.1 hg
  have g1 := g.P61
  have g2 := g.P4
  have g3 := g.Q3
  have g4 := g.QP
  have hG := sgen_el hg
  have M1 := hid (fun w' (hU : Up w w') => Valid_any P Q G w' hP hQ (hT.up hU))
  rw [hg] at M1
  have M2 := hid (fun w' => draValid_any h c w')
  have M3 := hid (fun w' => sigScalar_any P Q G x w')
  rw [hx] at M3
  have M4 := hid (fun w' (hU : Up w w') => Next_any h c Q w' (hS.up hU) hB)
  have HN := hid (fun hd => nxt_cases (h := h) (c := c) (Q := Q) hd (by omega) (by omega))
  have M5 := hid (fun (n : Int) (n0 : 0 ≤ n) (n1 : n < Q) w' (hU : Up w w') => gpw_sc (P := P) (a := G) n0 n1 ▸ gPower_ok P Q G G n w' hQ (hT.up hU) hg hG (by omega) (by omega))
  have M7 := hid (fun (n : Int) (n0 : 0 ≤ n) (n1 : n < Q) w' (hU : Up w w') => sigChallenge_ok P Q G (pwi P G n) (pwi P G x) v m w' (hT.up hU) (hS.up hU) hg (el_pw (by omega) (by omega) hG _) (el_pw (by omega) (by omega) hG _) (hv.up hU) hl hm)
  have HR := hid (fun (n : Int) => sigC_range P G (pwi P G n) (pwi P G x) m (Q := Q) (by omega))
  have HH := hid (fun (n k : Int) (hn : exB Q n = true) => honest_fits (P := P) (Q := Q) (G := G) (x := x) (k := n) (c := k) hg hx hn)
  have HGv := hid hg
  have HX := hid hx
  have HGe := hid hG
  have HLe := hid hl
  obtain ⟨x0, x1⟩ := exB_iff.1 hx
  obtain ⟨va, vc, rfl, _, _⟩ := hv.shape
  obtain ⟨nl, hnl⟩ : ∃ n, m.length = n := ⟨_, rfl⟩
  have HNL := hid hnl
  rw [hnl] at M7 hl ⊢
  have dl : decide ((nl : Int) > 16384) = false := by simp; omega
  obtain ⟨B, hBv⟩ : ∃ B, dvB c = B := ⟨_, rfl⟩
  rw [hBv] at M2 HN
  obtain ⟨o, ho⟩ : ∃ o, w.heap.size = o := ⟨_, rfl⟩
  have HO := hid ho
  obtain ⟨o1, ho1⟩ : ∃ o1, o + 1 = o1 := ⟨_, rfl⟩
  have HO1 := hid ho1
  obtain ⟨o2, ho2⟩ : ∃ o2, o1 + 1 = o2 := ⟨_, rfl⟩
  have HO2 := hid ho2
  obtain ⟨o3, ho3⟩ : ∃ o3, o2 + 1 = o3 := ⟨_, rfl⟩
  have HO3 := hid ho3
  have hl2 : w.heap.size ≤ o2 := by omega
  have hl3 : w.heap.size ≤ o3 := by omega
  have hl1 : w.heap.size ≤ o1 := by omega
  have n12 : o1 < o2 := by omega
  have n23 : o2 < o3 := by omega
  have n01 : o < o1 := by omega
  have HSz := hid (sizeDrw h c)
  have HS1 := hid (drwA_size h c)
  have HS2 := hid (drwA_one h c)
  unfold drw at M2 M4 ⊢
  generalize drwA h c = D0 at *
  clear hT hS hg hx hB hv hm hnl hl ho ho1 ho2 ho3 g hG hBv
  go_enter Tryd.func43, Tryd.ntmps43
  go_wp2_with fail
  refine (M1.out _ (((((Up.refl w).alloc _).alloc _).alloc _).alloc _)).mono ?_
  rintro e w1 ⟨rfl, hU1⟩
  have HA1 := hid (((nums_three (w := w) (t := 23) HO.out).up ((((Up.refl _).alloc _).alloc _).alloc _)).up hU1)
  have HD1 := hid ((((Blk.new (g := o1) (t := 45) (cs := D0) (by have := HO.out; have := HO1.out; have := HO2.out; have := HO3.out; simp; omega) rfl).up (((Up.refl _).alloc _).alloc _))).up hU1)
  have HZ1 := hid ((((Blk.new (g := o2) (t := 48) (cs := #[.int .i64 0, .int .i64 0]) (by have := HO.out; have := HO1.out; have := HO2.out; have := HO3.out; simp; omega) rfl).up ((Up.refl _).alloc _))).up hU1)
  have HY1 := hid (((Blk.new (g := o3) (t := 45) (by have := HO.out; have := HO1.out; have := HO2.out; have := HO3.out; simp; omega) zero33)).up hU1)
  have HU1 := hid ((((((Up.refl w).alloc _).alloc _).alloc _).alloc _).trans hU1)
  clear hU1
  rw [HO.out, HO1.out, HO2.out, HO3.out]
  obtain ⟨c0, c1, c2⟩ := HA1.out
  go_wp2_with (first | (refine wpList_load_row rfl 45 _ rfl o1 rfl 45 D0 (0, 0) _ HD1.out Tryd.underlying45 rfl HSz.out ?_) | (refine wpList_load_rowG (by rfl) 45 _ rfl o1 rfl 45 D0 (0, 0) _ HD1.out Tryd.underlying45 rfl HSz.out ?_))
  refine (M2.out _).mono ?_
  rintro e w2 ⟨rfl, hU2⟩
  have HA2 := hid (HA1.out.up hU2)
  have HD2 := hid (HD1.out.up hU2)
  have HZ2 := hid (HZ1.out.up hU2)
  have HY2 := hid (HY1.out.up hU2)
  have HU2 := hid (HU1.out.trans hU2)
  clear hU2 HA1 HD1 HZ1 HY1 HU1 c0 c1 c2
  obtain ⟨c0, c1, c2⟩ := HA2.out
  cases B
  case false =>
    go_wp2_with fail
    refine (sigFail_any 1 _).mono ?_
    rintro e w' ⟨rfl, hU'⟩
    have hz := HZ2.out.up hU'
    have hy := HY2.out.up hU'
    have hu := HU2.out.trans hU'
    go_wp2_with (first
      | (refine wpList_store_rowTo rfl 48 _ _ rfl rfl o2 #[.int .i64 0, .int .i64 0] rfl rfl 48 #[.int .i64 0, .int .i64 0] hz (sizeSig 0 0) rfl (by first | kernel_rfl | simp [Value.oneCell']) ?_)
      | (refine wpList_store_rowTo rfl 45 _ _ rfl rfl o3 (drwA zeroH 0) rfl rfl 45 (drwA zeroH 0) (hy.rowApart (show o3 ≠ o2 by omega) _) (sizeDrw _ _) rfl (drwA_one _ _) ?_))
    refine bodyPost_ret (results_row_row_tmp Tryd.results43 _ _ o2 o3 48 45 _ _ (0, 0) (0, 0) _ _ (by rfl) ((hz.row _).rowApart (show o2 ≠ o3 by omega) _) Tryd.underlying48 rfl (sizeSig 0 0) (by rfl) ((hy.rowApart (show o3 ≠ o2 by omega) _).row _) Tryd.underlying45 rfl (sizeDrw _ _)) rfl ⟨⟨0, 0, _, 1, rfl, drwA_size _ _, drwA_one _ _, fun h => absurd h (by decide), fun _ => ⟨rfl, rfl⟩⟩, (hu.setRow hl2 _).setRow hl3 _⟩
  go_wp2_with fail
  refine (M3.out _).mono ?_
  rintro e w3 ⟨rfl, hU3⟩
  have HA3 := hid (HA2.out.up hU3)
  have HD3 := hid (HD2.out.up hU3)
  have HZ3 := hid (HZ2.out.up hU3)
  have HY3 := hid (HY2.out.up hU3)
  have HU3 := hid (HU2.out.trans hU3)
  clear hU3 HA2 HD2 HZ2 HY2 HU2 c0 c1 c2
  obtain ⟨c0, c1, c2⟩ := HA3.out
  go_wp2_with (first | (refine wpList_load_row rfl 45 _ rfl o1 rfl 45 D0 (0, 0) _ HD3.out Tryd.underlying45 rfl HSz.out ?_) | (refine wpList_load_rowG (by rfl) 45 _ rfl o1 rfl 45 D0 (0, 0) _ HD3.out Tryd.underlying45 rfl HSz.out ?_))
  obtain ⟨D, n, f, hV, hD1, hD2, hf⟩ := HN.out trivial
  rw [hV] at M4
  clear hV
  refine (M4.out _ (HU3.out)).mono ?_
  rintro e w4 ⟨rfl, hU4⟩
  have HA4 := hid (HA3.out.up hU4)
  have HD4 := hid (HD3.out.up hU4)
  have HZ4 := hid (HZ3.out.up hU4)
  have HY4 := hid (HY3.out.up hU4)
  have HU4 := hid (HU3.out.trans hU4)
  clear hU4 HA3 HD3 HZ3 HY3 HU3 c0 c1 c2
  obtain ⟨c0, c1, c2⟩ := HA4.out
  have hD3 : (Tryd.prog.info? 45).map (·.size) = some D.size := by rw [hD1]; kernel_rfl
  have HA5 : Hid (GrpAt (w4.setRow o1 D) o P Q G) := hid (grp_row HA4.out (show o ≠ o1 by omega))
  have HD5 := hid (HD4.out.row D)
  have HZ5 := hid (HZ4.out.rowApart (show o2 ≠ o1 by omega) D)
  have HY5 := hid (HY4.out.rowApart (show o3 ≠ o1 by omega) D)
  have HU5 := hid (HU4.out.setRow hl1 D)
  clear c0 c1 c2
  by_cases h0 : f = 0
  case neg =>
    have d : (f != 0) = true := by simpa using h0
    go_wp2_with (refine wpList_store_rowTo rfl 45 _ _ rfl rfl o1 D rfl rfl 45 D0 HD4.out hD3 (by rw [HS1.out, hD1]) hD2 ?_)
    generalize w4.setRow o1 D = w5 at *
    refine (sigFail_any f _).mono ?_
    rintro e w' ⟨rfl, hU'⟩
    have hz := HZ5.out.up hU'
    have hy := HY5.out.up hU'
    have hu := HU5.out.trans hU'
    go_wp2_with (first
      | (refine wpList_store_rowTo rfl 48 _ _ rfl rfl o2 #[.int .i64 0, .int .i64 0] rfl rfl 48 #[.int .i64 0, .int .i64 0] hz (sizeSig 0 0) rfl (by first | kernel_rfl | simp [Value.oneCell']) ?_)
      | (refine wpList_store_rowTo rfl 45 _ _ rfl rfl o3 (drwA zeroH 0) rfl rfl 45 (drwA zeroH 0) (hy.rowApart (show o3 ≠ o2 by omega) _) (sizeDrw _ _) rfl (drwA_one _ _) ?_))
    refine bodyPost_ret (results_row_row_tmp Tryd.results43 _ _ o2 o3 48 45 _ _ (0, 0) (0, 0) _ _ (by rfl) ((hz.row _).rowApart (show o2 ≠ o3 by omega) _) Tryd.underlying48 rfl (sizeSig 0 0) (by rfl) ((hy.rowApart (show o3 ≠ o2 by omega) _).row _) Tryd.underlying45 rfl (sizeDrw _ _)) rfl ⟨⟨0, 0, _, f, rfl, drwA_size _ _, drwA_one _ _, fun h => absurd h h0, fun _ => ⟨rfl, rfl⟩⟩, (hu.setRow hl2 _).setRow hl3 _⟩
  obtain ⟨n0, n1⟩ := hf h0
  subst h0
  have M5n := hid (M5.out n n0 n1)
  have M6 := hid (M5.out x x0 x1)
  have M7n := hid (M7.out n n0 n1)
  obtain ⟨r0, r1⟩ := HR.out n
  have HHn := hid (HH.out n (sigC P Q G (pwi P G n) (pwi P G x) m) (exB_iff.2 ⟨n0, n1⟩))
  obtain ⟨k, hk⟩ : ∃ k, sigC P Q G (pwi P G n) (pwi P G x) m = k := ⟨_, rfl⟩
  rw [hk] at M7n r0 r1 HHn
  have HK := hid hk
  have M8 := hid (fun w' => Mul_ok k x Q w' r0 r1 x0 x1 (by omega))
  have z0 := Int.emod_nonneg (k * x) (show Q ≠ 0 by omega)
  have z1 := Int.emod_lt_of_pos (k * x) (show 0 < Q by omega)
  have M9 := hid (fun w' => Add_ok n (k * x % Q) Q w' n0 n1 z0 z1 (by omega))
  have HC : Hid (exB Q k = true) := hid (exB_iff.2 ⟨r0, r1⟩)
  have HSs : Hid (exB Q ((n + k * x % Q) % Q) = true) := hid (exB_iff.2 ⟨Int.emod_nonneg _ (by omega), Int.emod_lt_of_pos _ (by omega)⟩)
  have HVs : Hid (verS P Q G (pwi P G x) m k ((n + k * x % Q) % Q) = true) := hid (by
    have hy : elB P Q (pwi P G x) = true := el_pw (by omega) (by omega) HGe.out _
    have hE : frgE P Q G (pwi P G x) k ((n + k * x % Q) % Q) = 0 := by unfold frgE errE; rw [HGv.out, hy, HC.out, HSs.out]; rfl
    have hl := HLe.out
    unfold verS
    rw [hE, HHn.out, HK.out, show decide (m.length ≤ 16384) = true by simpa using hl]
    simp)
  generalize k * x % Q = Z at *
  generalize (n + Z) % Q = T at *
  generalize pwi P G n = R at *
  clear M5 M7 HR HH HHn hk HK z0 z1 r0 r1 hf n0 n1 x0 x1
  obtain ⟨c0, c1, c2⟩ := HA5.out
  go_wp2_with (refine wpList_store_rowTo rfl 45 _ _ rfl rfl o1 D rfl rfl 45 D0 HD4.out hD3 (by rw [HS1.out, hD1]) hD2 ?_)
  generalize w4.setRow o1 D = w5 at *
  clear HA4 HD4 HZ4 HY4 HU4
  refine (M5n.out _ (HU5.out)).mono ?_
  rintro e w6 ⟨rfl, hU6⟩
  have HA6 := hid (HA5.out.up hU6)
  have HD6 := hid (HD5.out.up hU6)
  have HZ6 := hid (HZ5.out.up hU6)
  have HY6 := hid (HY5.out.up hU6)
  have HU6 := hid (HU5.out.trans hU6)
  clear hU6 HA5 HD5 HZ5 HY5 HU5 c0 c1 c2
  obtain ⟨c0, c1, c2⟩ := HA6.out
  go_wp2_with fail
  refine (M6.out _ (HU6.out)).mono ?_
  rintro e w7 ⟨rfl, hU7⟩
  have HA7 := hid (HA6.out.up hU7)
  have HD7 := hid (HD6.out.up hU7)
  have HZ7 := hid (HZ6.out.up hU7)
  have HY7 := hid (HY6.out.up hU7)
  have HU7 := hid (HU6.out.trans hU7)
  clear hU7 HA6 HD6 HZ6 HY6 HU6 c0 c1 c2
  obtain ⟨c0, c1, c2⟩ := HA7.out
  go_wp2_with fail
  refine (M7n.out _ (HU7.out)).mono ?_
  rintro e w8 ⟨rfl, hU8⟩
  have HA8 := hid (HA7.out.up hU8)
  have HD8 := hid (HD7.out.up hU8)
  have HZ8 := hid (HZ7.out.up hU8)
  have HY8 := hid (HY7.out.up hU8)
  have HU8 := hid (HU7.out.trans hU8)
  clear hU8 HA7 HD7 HZ7 HY7 HU7 c0 c1 c2
  obtain ⟨c0, c1, c2⟩ := HA8.out
  go_wp2_with fail
  refine (M8.out _).mono ?_
  rintro e w9 ⟨rfl, hU9⟩
  have HA9 := hid (HA8.out.up hU9)
  have HD9 := hid (HD8.out.up hU9)
  have HZ9 := hid (HZ8.out.up hU9)
  have HY9 := hid (HY8.out.up hU9)
  have HU9 := hid (HU8.out.trans hU9)
  clear hU9 HA8 HD8 HZ8 HY8 HU8 c0 c1 c2
  obtain ⟨c0, c1, c2⟩ := HA9.out
  go_wp2_with fail
  refine (M9.out _).mono ?_
  rintro e w10 ⟨rfl, hU10⟩
  have HA10 := hid (HA9.out.up hU10)
  have HD10 := hid (HD9.out.up hU10)
  have HZ10 := hid (HZ9.out.up hU10)
  have HY10 := hid (HY9.out.up hU10)
  have HU10 := hid (HU9.out.trans hU10)
  clear hU10 HA9 HD9 HZ9 HY9 HU9 c0 c1 c2
  obtain ⟨c0, c1, c2⟩ := HA10.out
  go_wp2_with fail
  clear c0 c1 c2
  refine region_E (fun w' => Blk w' o1 45 D) 6 (by kernel_rfl) (HD10.out.up (Up.refl _).drew) fun hS => ?_
  have hZ0 := HZ10.out.up (Up.refl w10).drew
  have hY0 := HY10.out.up (Up.refl w10).drew
  have hU0 := HU10.out.drew
  generalize w10.drew = v0 at *
  refine anyE_take (i := 0) (v := ?_) 120 rfl rfl (by kernel_rfl) (by kernel_rfl) (by decide) (fun _ _ _ h => h) (by kernel_rfl) (by kernel_rfl) (.inl ⟨by rfl, fun u hu => ?_⟩) hS ?_
  rotate_left
  · (go_simp; first | done | with_reducible rfl)
  try simp only [Act.put, List.setIfInBounds_toArray, List.set_cons_zero, List.set_cons_succ]
  refine anyE_take (i := 1) (v := ?_) 121 rfl rfl (by kernel_rfl) (by kernel_rfl) (by decide) (fun _ _ _ h => h) (by kernel_rfl) (by kernel_rfl) (.inl ⟨by rfl, fun u hu => ?_⟩) hS ?_
  rotate_left
  · (go_simp; first | done | with_reducible rfl)
  try simp only [Act.put, List.setIfInBounds_toArray, List.set_cons_zero, List.set_cons_succ]
  refine anyE_take (i := 3) (v := .agg D.toList.toArray) 123 rfl rfl (by kernel_rfl) (by kernel_rfl) (by decide) (fun _ _ _ h => h) (by kernel_rfl) (by kernel_rfl) (yieldsIf_load_mid (by rfl) 45 _ rfl o1 0 rfl D.toList _ (fun u hu => blk_range hu) Tryd.underlying45 rfl (by rw [Array.length_toList]; exact hD3)) hS ?_
  rw [Array.toArray_toList]
  try simp only [Act.put, List.setIfInBounds_toArray, List.set_cons_zero, List.set_cons_succ]
  refine anyE_one (i := 2) rfl (by kernel_rfl) rfl (fun K hK => ?_)
  refine op_builtS 48 _ rfl _ rfl #[.int .i64 k, .int .i64 T] (by kernel_rfl) ?_
  refine hK.out _ _ (.inr hS) ?_
  clear hK
  try simp only [Act.put, List.setIfInBounds_toArray]
  refine anyE_one (i := 4) rfl (by kernel_rfl) rfl (fun K hK => ?_)
  refine op_store_row 48 _ _ rfl rfl o2 #[.int .i64 k, .int .i64 T] rfl rfl 48 #[.int .i64 0, .int .i64 0] hZ0 (sizeSig _ _) rfl (by first | kernel_rfl | simp [Value.oneCell']) ?_
  have hS1 := Blk.rowApart hS (show o1 ≠ o2 by omega) #[.int .i64 k, .int .i64 T]
  refine hK.out _ _ (.inr hS1) ?_
  clear hK
  refine anyE_one (i := 5) rfl (by kernel_rfl) rfl (fun K hK => ?_)
  refine op_store_row 45 _ _ rfl rfl o3 D rfl rfl 45 (drwA zeroH 0) (hY0.rowApart (show o3 ≠ o2 by omega) _) hD3 (by rw [drwA_size, hD1]) hD2 ?_
  have hS2 := Blk.rowApart hS1 (show o1 ≠ o3 by omega) D
  refine hK.out _ _ (.inr hS2) ?_
  clear hK
  refine anyE_one (i := 6) rfl (by kernel_rfl) rfl (fun K hK => ?_)
  go_simp
  refine hK.out _ _ (.inl rfl) (anyE_done (by kernel_rfl) ?_ _)
  clear hK
  go_wp2
  refine bodyPost_ret (results_row_row_tmp Tryd.results43 _ _ o2 o3 48 45 _ _ (0, 0) (0, 0) _ _ (by rfl) ((hZ0.row _).rowApart (show o2 ≠ o3 by omega) _) Tryd.underlying48 rfl (sizeSig _ _) (by rfl) ((hY0.rowApart (show o3 ≠ o2 by omega) _).row _) Tryd.underlying45 rfl hD3) rfl ⟨⟨k, T, D, 0, rfl, hD1, hD2, fun _ => ⟨HC.out, HSs.out, HVs.out⟩, fun h => absurd rfl h⟩, (hU0.setRow hl2 _).setRow hl3 _⟩
end Go.Proofs.YtoaomjdpiealfaaDoor
