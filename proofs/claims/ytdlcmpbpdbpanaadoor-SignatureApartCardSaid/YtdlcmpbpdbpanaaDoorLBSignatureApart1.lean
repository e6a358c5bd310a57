/- A changed signature is verified exactly if its challenge fits the changed text: specielaw22.SignatureApart returns true. For every input; the tables of packages math/bits, prime and digest as the program's text lays them. SignatureApart: the walk. slices.Clone of bytes. Package signature: Sign. A number of 16 bits among the arguments. -/
import Derived.Test.YtdlcmpbpdbpanaaDoorMB30
import Derived.Test.YtdlcmpbpdbpanaaDoorMB25
import Derived.Test.YtdlcmpbpdbpanaaDoorMB18
import Derived.Test.YtdlcmpbpdbpanaaDoorMB31
import Derived.Test.YtdlcmpbpdbpanaaDoorMB20
import Derived.Lib.SliceRun
import Derived.Laws.Closers25b
import Derived.Lay
namespace Go.Proofs.YtdlcmpbpdbpanaaDoor
open Go.ChangeShapes Go.WideShapes Go.ChangeAt Go.RowKit Go.Sp Go.Joins Go.Deep
set_option maxRecDepth 100000 in
theorem open_u16 {H : Type} {enc : TypeId × Value → H} {r : Reach} {b0 base : Nat} {spare : Nat → Bool} {held : Bool} {w : World} {v : Value} {d : DataW H} {p : List MemPlace}
    (hv : Value.okWide Tryd.prog w r b0 43 v) (h : DataW.Trod enc Tryd.prog w base spare held 43 v d p) :
    ∃ x : Int, v = .int .u16 x ∧ 0 ≤ x ∧ x ≤ 65535 := by
  obtain ⟨x, rfl, rfl, rfl, wx⟩ := open_int Tryd.underlying43 hv h
  have a : IntKind.u16.min = 0 := by decide
  have b : IntKind.u16.max = 65535 := by decide
  simp [Lit.wf, a, b] at wx
  exact ⟨x, rfl, by omega, by omega⟩
end Go.Proofs.YtdlcmpbpdbpanaaDoor
namespace Go.Proofs.YtdlcmpbpdbpanaaDoor
open Go.RowKit Go.Sp
set_option maxHeartbeats 4000000
set_option maxRecDepth 20000

theorem results_row_row_tmp {P : Program} {fn : Func} {p q u : Tmp} {ty ty2 : TypeId} (h : fn.results = #[.cell p ty, .cell q ty2, .tmp u]) (tmps : Array Value) (w : World) (g g2 : Nat) (t t2 : TypeId) (cs cs2 : Array Value) (fr fr2 : Nat × Nat) (d d2 : TypeDesc)
    (hp : tmps.getD p undef = .pointer (some ⟨g, 0, none⟩)) (hg : w.heap[g]? = some (.cells cs t fr)) (hu : P.underlying ty = some d) (hd : (match d with | .struct _ | .array _ _ => true | _ => false) = true) (hi : (P.info? ty).map (·.size) = some cs.size)
    (hq : tmps.getD q undef = .pointer (some ⟨g2, 0, none⟩)) (hg2 : w.heap[g2]? = some (.cells cs2 t2 fr2)) (hu2 : P.underlying ty2 = some d2) (hd2 : (match d2 with | .struct _ | .array _ _ => true | _ => false) = true) (hi2 : (P.info? ty2).map (·.size) = some cs2.size) :
    (results fn tmps).run P w = .ok (.tuple #[.agg cs, .agg cs2, tmps.getD u undef]) w := by
  have hp' : tmps[p]?.getD undef = .pointer (some ⟨g, 0, none⟩) := by simpa using hp
  have hq' : tmps[q]?.getD undef = .pointer (some ⟨g2, 0, none⟩) := by simpa using hq
  simp only [results, h]
  simp [Result.andThen, hp', hq', asAddr, run_loadVar_row w g t ty cs fr d hg hu hd hi, run_loadVar_row w g2 t2 ty2 cs2 fr2 d2 hg2 hu2 hd2 hi2]

theorem op_builtS {P : Program} {o : Oper} {a : Act} {w : World} {K : Act → World → Prop} {Q : Exit → Act → World → Prop} (t : TypeId) (parts : Array (Nat × Operand)) (ho : o.op = .build t parts)
    (d : Option Tmp) (hd : o.dst = d) (cells : Array Value) (hf : P.built t (parts.map fun (i, x) => (i, a.eval x)).toList = some cells) (h : K (a.put d (.agg cells)) w) : o.wp P a w K Q := by
  subst hd
  refine wp_build t parts ho (by rw [hf]; rfl) ?_
  rw [hf]
  exact h

theorem sizeSig (a b : Int) : (Tryd.prog.info? 64).map (·.size) = some (#[Value.int .i64 a, Value.int .i64 b]).size := by kernel_rfl

theorem sigFail_any (E : Int) (w : World) : Calls Tryd.prog 101 #[.int .i64 E] w fun e w' => e = .returned (.tuple #[.agg #[.int .i64 0, .int .i64 0], .agg (drwA zeroH 0), .int .i64 E]) ∧ Up w w' := by
  go_enter Tryd.func101, Tryd.ntmps101
  have hB0 := (Blk.new (w := w) (g := w.heap.size) (t := 64) (cs := #[.int .i64 0, .int .i64 0]) rfl rfl).alloc (.cells #[.int .u8 0, .int .u8 0, .int .u8 0, .int .u8 0, .int .u8 0, .int .u8 0, .int .u8 0, .int .u8 0, .int .u8 0, .int .u8 0, .int .u8 0, .int .u8 0, .int .u8 0, .int .u8 0, .int .u8 0, .int .u8 0, .int .u8 0, .int .u8 0, .int .u8 0, .int .u8 0, .int .u8 0, .int .u8 0, .int .u8 0, .int .u8 0, .int .u8 0, .int .u8 0, .int .u8 0, .int .u8 0, .int .u8 0, .int .u8 0, .int .u8 0, .int .u8 0, .int .i64 0] 25)
  have hB1 := Blk.new (w := w.alloc (.cells #[.int .i64 0, .int .i64 0] 64)) (t := 25) (g := w.heap.size + 1) (by simp) zero33
  have hU0 := (((Up.refl w).alloc (.cells #[.int .i64 0, .int .i64 0] 64)).alloc (.cells #[.int .u8 0, .int .u8 0, .int .u8 0, .int .u8 0, .int .u8 0, .int .u8 0, .int .u8 0, .int .u8 0, .int .u8 0, .int .u8 0, .int .u8 0, .int .u8 0, .int .u8 0, .int .u8 0, .int .u8 0, .int .u8 0, .int .u8 0, .int .u8 0, .int .u8 0, .int .u8 0, .int .u8 0, .int .u8 0, .int .u8 0, .int .u8 0, .int .u8 0, .int .u8 0, .int .u8 0, .int .u8 0, .int .u8 0, .int .u8 0, .int .u8 0, .int .u8 0, .int .i64 0] 25))
  go_wp2_with (first
    | (refine wpList_store_rowTo rfl 64 _ _ rfl rfl w.heap.size #[.int .i64 0, .int .i64 0] rfl rfl 64 #[.int .i64 0, .int .i64 0] hB0 (sizeSig 0 0) rfl (by first | kernel_rfl | simp [Value.oneCell']) ?_)
    | (refine wpList_store_rowTo rfl 25 _ _ rfl rfl (w.heap.size + 1) (drwA zeroH 0) rfl (congrArg Value.agg zero33) 25 (drwA zeroH 0) (hB1.rowApart (show w.heap.size + 1 ≠ w.heap.size by omega) _) (sizeDrw _ _) rfl (drwA_one _ _) ?_))
  refine bodyPost_ret (results_row_row_tmp Tryd.results101 _ _ w.heap.size (w.heap.size + 1) 64 25 _ _ (0, 0) (0, 0) _ _ (by rfl) ((hB0.row _).rowApart (by omega) _) Tryd.underlying64 rfl (sizeSig 0 0) (by rfl) ((hB1.rowApart (by omega) _).row _) Tryd.underlying25 rfl (sizeDrw _ _)) rfl ⟨rfl, (hU0.setRow (Nat.le_refl _) _).setRow (by omega) _⟩

theorem nxt_cases {h : Nat → Int} {c Q : Int} (hd : dvB c = true) (q0 : 1 ≤ Q) (q1 : Q < 2305843009213693952) : ∃ D n f, nxtV h c Q = .tuple #[.agg D, .int .i64 n, .int .i64 f] ∧ D.size = 33 ∧ D.all (·.oneCell') = true ∧ (f = 0 → 0 ≤ n ∧ n < Q) := by
  have hk : chkE c Q 1 2305843009213693951 = 0 := chk_iff.2 ⟨dvB_iff.1 hd, q0, by omega⟩
  rw [nxtV, if_pos hk]
  have hn := numT_in (h := h) (q := Q) q0 256 c 0
  generalize numT h Q 256 c 0 = t at *
  obtain ⟨n, c', F⟩ := t
  cases F
  · exact ⟨drwA h c', n, 0, rfl, drwA_size _ _, drwA_one _ _, fun _ => hn rfl⟩
  · exact ⟨drwA zeroH 0, n, 5, rfl, drwA_size _ _, drwA_one _ _, fun h => by cases h⟩

def SgnOut (P Q G x : Int) (m : List Int) (w : World) (e : Ending) (w' : World) : Prop :=
  (∃ C S D E, e = .returned (.tuple #[.agg #[.int .i64 C, .int .i64 S], .agg D, .int .i64 E]) ∧ D.size = 33 ∧ D.all (·.oneCell') = true ∧ (E = 0 → exB Q C = true ∧ exB Q S = true ∧ verS P Q G (pwi P G x) m C S = true) ∧ (E ≠ 0 → C = 0 ∧ S = 0)) ∧ Up w w'

theorem sigSign_ok (P Q G x c : Int) (h : Nat → Int) (v : Value) (m : List Int) (w : World) (hP : -9223372036854775808 ≤ P) (hQ : Q ≤ 9223372036854775807) (hT : Tab w) (hS : TabS w) (hg : gvB P Q G = true) (hx : exB Q x = true) (hB : Byt h) (hv : SeqAt .u8 w v m) (hm : ∀ x ∈ m, 0 ≤ x ∧ x ≤ 255) (hl : m.length ≤ 16384) :
    Calls Tryd.prog 42 #[grp P Q G, .int .i64 x, v, drw h c] w (SgnOut P Q G x m w) := by
  have g := gv_iff.1 hg
  have g1 := g.P61
  have g2 := g.P4
  have g3 := g.Q3
  have g4 := g.QP
  have hG := sgen_el hg
  have M1 := hid (fun w' (hU : Up w w') => Valid_any P Q G w' hP hQ (hT.up hU))
  rw [hg] at M1
  have M2 := hid (fun w' => draValid_any h c w')
  have M3 := hid (fun w' => sigScalar_any P Q G x w')
  rw [hx] at M3
  have M4 := hid (fun w' (hU : Up w w') => Next_any h c Q w' (hS.up hU) hB)
  have HN := hid (fun hd => nxt_cases (h := h) (c := c) (Q := Q) hd (by omega) (by omega))
  have M5 := hid (fun (n : Int) (n0 : 0 ≤ n) (n1 : n < Q) w' (hU : Up w w') => gpw_sc (P := P) (a := G) n0 n1 ▸ gPower_ok P Q G G n w' hQ (hT.up hU) hg hG (by omega) (by omega))
  have M7 := hid (fun (n : Int) (n0 : 0 ≤ n) (n1 : n < Q) w' (hU : Up w w') => sigChallenge_ok P Q G (pwi P G n) (pwi P G x) v m w' (hT.up hU) (hS.up hU) hg (el_pw (by omega) (by omega) hG _) (el_pw (by omega) (by omega) hG _) (hv.up hU) hl hm)
  have HR := hid (fun (n : Int) => sigC_range P G (pwi P G n) (pwi P G x) m (Q := Q) (by omega))
  have HH := hid (fun (n k : Int) (hn : exB Q n = true) => honest_fits (P := P) (Q := Q) (G := G) (x := x) (k := n) (c := k) hg hx hn)
  have HGv := hid hg
  have HX := hid hx
  have HGe := hid hG
  have HLe := hid hl
  obtain ⟨x0, x1⟩ := exB_iff.1 hx
  obtain ⟨va, vc, rfl, _, _⟩ := hv.shape
  obtain ⟨nl, hnl⟩ : ∃ n, m.length = n := ⟨_, rfl⟩
  have HNL := hid hnl
  rw [hnl] at M7 hl ⊢
  have dl : decide ((nl : Int) > 16384) = false := by simp; omega
  obtain ⟨B, hBv⟩ : ∃ B, dvB c = B := ⟨_, rfl⟩
  rw [hBv] at M2 HN
  obtain ⟨o, ho⟩ : ∃ o, w.heap.size = o := ⟨_, rfl⟩
  have HO := hid ho
  obtain ⟨o1, ho1⟩ : ∃ o1, o + 1 = o1 := ⟨_, rfl⟩
  have HO1 := hid ho1
  obtain ⟨o2, ho2⟩ : ∃ o2, o1 + 1 = o2 := ⟨_, rfl⟩
  have HO2 := hid ho2
  obtain ⟨o3, ho3⟩ : ∃ o3, o2 + 1 = o3 := ⟨_, rfl⟩
  have HO3 := hid ho3
  have hl2 : w.heap.size ≤ o2 := by omega
  have hl3 : w.heap.size ≤ o3 := by omega
  have hl1 : w.heap.size ≤ o1 := by omega
  have n12 : o1 < o2 := by omega
  have n23 : o2 < o3 := by omega
  have n01 : o < o1 := by omega
  have HSz := hid (sizeDrw h c)
  have HS1 := hid (drwA_size h c)
  have HS2 := hid (drwA_one h c)
  unfold drw at M2 M4 ⊢
  generalize drwA h c = D0 at *
  clear hT hS hg hx hB hv hm hnl hl ho ho1 ho2 ho3 g hG hBv
  go_enter Tryd.func42, Tryd.ntmps42
  go_wp2_with fail
  refine (M1.out _ (((((Up.refl w).alloc _).alloc _).alloc _).alloc _)).mono ?_
  rintro e w1 ⟨rfl, hU1⟩
  have HA1 := hid (((nums_three (w := w) (t := 52) HO.out).up ((((Up.refl _).alloc _).alloc _).alloc _)).up hU1)
  have HD1 := hid ((((Blk.new (g := o1) (t := 25) (cs := D0) (by have := HO.out; have := HO1.out; have := HO2.out; have := HO3.out; simp; omega) rfl).up (((Up.refl _).alloc _).alloc _))).up hU1)
  have HZ1 := hid ((((Blk.new (g := o2) (t := 64) (cs := #[.int .i64 0, .int .i64 0]) (by have := HO.out; have := HO1.out; have := HO2.out; have := HO3.out; simp; omega) rfl).up ((Up.refl _).alloc _))).up hU1)
  have HY1 := hid (((Blk.new (g := o3) (t := 25) (by have := HO.out; have := HO1.out; have := HO2.out; have := HO3.out; simp; omega) zero33)).up hU1)
  have HU1 := hid ((((((Up.refl w).alloc _).alloc _).alloc _).alloc _).trans hU1)
  clear hU1
  rw [HO.out, HO1.out, HO2.out, HO3.out]
  obtain ⟨c0, c1, c2⟩ := HA1.out
  go_wp2_with (first | (refine wpList_load_row rfl 25 _ rfl o1 rfl 25 D0 (0, 0) _ HD1.out Tryd.underlying25 rfl HSz.out ?_) | (refine wpList_load_rowG (by rfl) 25 _ rfl o1 rfl 25 D0 (0, 0) _ HD1.out Tryd.underlying25 rfl HSz.out ?_))
  refine (M2.out _).mono ?_
  rintro e w2 ⟨rfl, hU2⟩
  have HA2 := hid (HA1.out.up hU2)
  have HD2 := hid (HD1.out.up hU2)
  have HZ2 := hid (HZ1.out.up hU2)
  have HY2 := hid (HY1.out.up hU2)
  have HU2 := hid (HU1.out.trans hU2)
  clear hU2 HA1 HD1 HZ1 HY1 HU1 c0 c1 c2
  obtain ⟨c0, c1, c2⟩ := HA2.out
  cases B
  case false =>
    go_wp2_with fail
    refine (sigFail_any 1 _).mono ?_
    rintro e w' ⟨rfl, hU'⟩
    have hz := HZ2.out.up hU'
    have hy := HY2.out.up hU'
    have hu := HU2.out.trans hU'
    go_wp2_with (first
      | (refine wpList_store_rowTo rfl 64 _ _ rfl rfl o2 #[.int .i64 0, .int .i64 0] rfl rfl 64 #[.int .i64 0, .int .i64 0] hz (sizeSig 0 0) rfl (by first | kernel_rfl | simp [Value.oneCell']) ?_)
      | (refine wpList_store_rowTo rfl 25 _ _ rfl rfl o3 (drwA zeroH 0) rfl rfl 25 (drwA zeroH 0) (hy.rowApart (show o3 ≠ o2 by omega) _) (sizeDrw _ _) rfl (drwA_one _ _) ?_))
    refine bodyPost_ret (results_row_row_tmp Tryd.results42 _ _ o2 o3 64 25 _ _ (0, 0) (0, 0) _ _ (by rfl) ((hz.row _).rowApart (show o2 ≠ o3 by omega) _) Tryd.underlying64 rfl (sizeSig 0 0) (by rfl) ((hy.rowApart (show o3 ≠ o2 by omega) _).row _) Tryd.underlying25 rfl (sizeDrw _ _)) rfl ⟨⟨0, 0, _, 1, rfl, drwA_size _ _, drwA_one _ _, fun h => absurd h (by decide), fun _ => ⟨rfl, rfl⟩⟩, (hu.setRow hl2 _).setRow hl3 _⟩
  go_wp2_with fail
  refine (M3.out _).mono ?_
  rintro e w3 ⟨rfl, hU3⟩
  have HA3 := hid (HA2.out.up hU3)
  have HD3 := hid (HD2.out.up hU3)
  have HZ3 := hid (HZ2.out.up hU3)
  have HY3 := hid (HY2.out.up hU3)
  have HU3 := hid (HU2.out.trans hU3)
  clear hU3 HA2 HD2 HZ2 HY2 HU2 c0 c1 c2
  obtain ⟨c0, c1, c2⟩ := HA3.out
  go_wp2_with (first | (refine wpList_load_row rfl 25 _ rfl o1 rfl 25 D0 (0, 0) _ HD3.out Tryd.underlying25 rfl HSz.out ?_) | (refine wpList_load_rowG (by rfl) 25 _ rfl o1 rfl 25 D0 (0, 0) _ HD3.out Tryd.underlying25 rfl HSz.out ?_))
  obtain ⟨D, n, f, hV, hD1, hD2, hf⟩ := HN.out trivial
  rw [hV] at M4
  clear hV
  refine (M4.out _ (HU3.out)).mono ?_
  rintro e w4 ⟨rfl, hU4⟩
  have HA4 := hid (HA3.out.up hU4)
  have HD4 := hid (HD3.out.up hU4)
  have HZ4 := hid (HZ3.out.up hU4)
  have HY4 := hid (HY3.out.up hU4)
  have HU4 := hid (HU3.out.trans hU4)
  clear hU4 HA3 HD3 HZ3 HY3 HU3 c0 c1 c2
  obtain ⟨c0, c1, c2⟩ := HA4.out
  have hD3 : (Tryd.prog.info? 25).map (·.size) = some D.size := by rw [hD1]; kernel_rfl
  have HA5 : Hid (GrpAt (w4.setRow o1 D) o P Q G) := hid (grp_row HA4.out (show o ≠ o1 by omega))
  have HD5 := hid (HD4.out.row D)
  have HZ5 := hid (HZ4.out.rowApart (show o2 ≠ o1 by omega) D)
  have HY5 := hid (HY4.out.rowApart (show o3 ≠ o1 by omega) D)
  have HU5 := hid (HU4.out.setRow hl1 D)
  clear c0 c1 c2
  by_cases h0 : f = 0
  case neg =>
    have d : (f != 0) = true := by simpa using h0
    go_wp2_with (refine wpList_store_rowTo rfl 25 _ _ rfl rfl o1 D rfl rfl 25 D0 HD4.out hD3 (by rw [HS1.out, hD1]) hD2 ?_)
    generalize w4.setRow o1 D = w5 at *
    refine (sigFail_any f _).mono ?_
    rintro e w' ⟨rfl, hU'⟩
    have hz := HZ5.out.up hU'
    have hy := HY5.out.up hU'
    have hu := HU5.out.trans hU'
    go_wp2_with (first
      | (refine wpList_store_rowTo rfl 64 _ _ rfl rfl o2 #[.int .i64 0, .int .i64 0] rfl rfl 64 #[.int .i64 0, .int .i64 0] hz (sizeSig 0 0) rfl (by first | kernel_rfl | simp [Value.oneCell']) ?_)
      | (refine wpList_store_rowTo rfl 25 _ _ rfl rfl o3 (drwA zeroH 0) rfl rfl 25 (drwA zeroH 0) (hy.rowApart (show o3 ≠ o2 by omega) _) (sizeDrw _ _) rfl (drwA_one _ _) ?_))
    refine bodyPost_ret (results_row_row_tmp Tryd.results42 _ _ o2 o3 64 25 _ _ (0, 0) (0, 0) _ _ (by rfl) ((hz.row _).rowApart (show o2 ≠ o3 by omega) _) Tryd.underlying64 rfl (sizeSig 0 0) (by rfl) ((hy.rowApart (show o3 ≠ o2 by omega) _).row _) Tryd.underlying25 rfl (sizeDrw _ _)) rfl ⟨⟨0, 0, _, f, rfl, drwA_size _ _, drwA_one _ _, fun h => absurd h h0, fun _ => ⟨rfl, rfl⟩⟩, (hu.setRow hl2 _).setRow hl3 _⟩
  obtain ⟨n0, n1⟩ := hf h0
  subst h0
  have M5n := hid (M5.out n n0 n1)
  have M6 := hid (M5.out x x0 x1)
  have M7n := hid (M7.out n n0 n1)
  obtain ⟨r0, r1⟩ := HR.out n
  have HHn := hid (HH.out n (sigC P Q G (pwi P G n) (pwi P G x) m) (exB_iff.2 ⟨n0, n1⟩))
  obtain ⟨k, hk⟩ : ∃ k, sigC P Q G (pwi P G n) (pwi P G x) m = k := ⟨_, rfl⟩
  rw [hk] at M7n r0 r1 HHn
  have HK := hid hk
  have M8 := hid (fun w' => Mul_ok k x Q w' r0 r1 x0 x1 (by omega))
  have z0 := Int.emod_nonneg (k * x) (show Q ≠ 0 by omega)
  have z1 := Int.emod_lt_of_pos (k * x) (show 0 < Q by omega)
  have M9 := hid (fun w' => Add_ok n (k * x % Q) Q w' n0 n1 z0 z1 (by omega))
  have HC : Hid (exB Q k = true) := hid (exB_iff.2 ⟨r0, r1⟩)
  have HSs : Hid (exB Q ((n + k * x % Q) % Q) = true) := hid (exB_iff.2 ⟨Int.emod_nonneg _ (by omega), Int.emod_lt_of_pos _ (by omega)⟩)
  have HVs : Hid (verS P Q G (pwi P G x) m k ((n + k * x % Q) % Q) = true) := hid (by
    have hy : elB P Q (pwi P G x) = true := el_pw (by omega) (by omega) HGe.out _
    have hE : frgE P Q G (pwi P G x) k ((n + k * x % Q) % Q) = 0 := by unfold frgE errE; rw [HGv.out, hy, HC.out, HSs.out]; rfl
    have hl := HLe.out
    unfold verS
    rw [hE, HHn.out, HK.out, show decide (m.length ≤ 16384) = true by simpa using hl]
    simp)
  generalize k * x % Q = Z at *
  generalize (n + Z) % Q = T at *
  generalize pwi P G n = R at *
  clear M5 M7 HR HH HHn hk HK z0 z1 r0 r1 hf n0 n1 x0 x1
  obtain ⟨c0, c1, c2⟩ := HA5.out
  go_wp2_with (refine wpList_store_rowTo rfl 25 _ _ rfl rfl o1 D rfl rfl 25 D0 HD4.out hD3 (by rw [HS1.out, hD1]) hD2 ?_)
  generalize w4.setRow o1 D = w5 at *
  clear HA4 HD4 HZ4 HY4 HU4
  refine (M5n.out _ (HU5.out)).mono ?_
  rintro e w6 ⟨rfl, hU6⟩
  have HA6 := hid (HA5.out.up hU6)
  have HD6 := hid (HD5.out.up hU6)
  have HZ6 := hid (HZ5.out.up hU6)
  have HY6 := hid (HY5.out.up hU6)
  have HU6 := hid (HU5.out.trans hU6)
  clear hU6 HA5 HD5 HZ5 HY5 HU5 c0 c1 c2
  obtain ⟨c0, c1, c2⟩ := HA6.out
  go_wp2_with fail
  refine (M6.out _ (HU6.out)).mono ?_
  rintro e w7 ⟨rfl, hU7⟩
  have HA7 := hid (HA6.out.up hU7)
  have HD7 := hid (HD6.out.up hU7)
  have HZ7 := hid (HZ6.out.up hU7)
  have HY7 := hid (HY6.out.up hU7)
  have HU7 := hid (HU6.out.trans hU7)
  clear hU7 HA6 HD6 HZ6 HY6 HU6 c0 c1 c2
  obtain ⟨c0, c1, c2⟩ := HA7.out
  go_wp2_with fail
  refine (M7n.out _ (HU7.out)).mono ?_
  rintro e w8 ⟨rfl, hU8⟩
  have HA8 := hid (HA7.out.up hU8)
  have HD8 := hid (HD7.out.up hU8)
  have HZ8 := hid (HZ7.out.up hU8)
  have HY8 := hid (HY7.out.up hU8)
  have HU8 := hid (HU7.out.trans hU8)
  clear hU8 HA7 HD7 HZ7 HY7 HU7 c0 c1 c2
  obtain ⟨c0, c1, c2⟩ := HA8.out
  go_wp2_with fail
  refine (M8.out _).mono ?_
  rintro e w9 ⟨rfl, hU9⟩
  have HA9 := hid (HA8.out.up hU9)
  have HD9 := hid (HD8.out.up hU9)
  have HZ9 := hid (HZ8.out.up hU9)
  have HY9 := hid (HY8.out.up hU9)
  have HU9 := hid (HU8.out.trans hU9)
  clear hU9 HA8 HD8 HZ8 HY8 HU8 c0 c1 c2
  obtain ⟨c0, c1, c2⟩ := HA9.out
  go_wp2_with fail
  refine (M9.out _).mono ?_
  rintro e w10 ⟨rfl, hU10⟩
  have HA10 := hid (HA9.out.up hU10)
  have HD10 := hid (HD9.out.up hU10)
  have HZ10 := hid (HZ9.out.up hU10)
  have HY10 := hid (HY9.out.up hU10)
  have HU10 := hid (HU9.out.trans hU10)
  clear hU10 HA9 HD9 HZ9 HY9 HU9 c0 c1 c2
  obtain ⟨c0, c1, c2⟩ := HA10.out
  go_wp2_with fail
  clear c0 c1 c2
  refine region_E (fun w' => Blk w' o1 25 D) 6 (by kernel_rfl) (HD10.out.up (Up.refl _).drew) fun hS => ?_
  have hZ0 := HZ10.out.up (Up.refl w10).drew
  have hY0 := HY10.out.up (Up.refl w10).drew
  have hU0 := HU10.out.drew
  generalize w10.drew = v0 at *
  refine anyE_take (i := 0) (v := ?_) 120 rfl rfl (by kernel_rfl) (by kernel_rfl) (by decide) (fun _ _ _ h => h) (by kernel_rfl) (by kernel_rfl) (.inl ⟨by rfl, fun u hu => ?_⟩) hS ?_
  rotate_left
  · (go_simp; first | done | with_reducible rfl)
  try simp only [Act.put, List.setIfInBounds_toArray, List.set_cons_zero, List.set_cons_succ]
  refine anyE_take (i := 1) (v := ?_) 121 rfl rfl (by kernel_rfl) (by kernel_rfl) (by decide) (fun _ _ _ h => h) (by kernel_rfl) (by kernel_rfl) (.inl ⟨by rfl, fun u hu => ?_⟩) hS ?_
  rotate_left
  · (go_simp; first | done | with_reducible rfl)
  try simp only [Act.put, List.setIfInBounds_toArray, List.set_cons_zero, List.set_cons_succ]
  refine anyE_take (i := 3) (v := .agg D.toList.toArray) 123 rfl rfl (by kernel_rfl) (by kernel_rfl) (by decide) (fun _ _ _ h => h) (by kernel_rfl) (by kernel_rfl) (yieldsIf_load_mid (by rfl) 25 _ rfl o1 0 rfl D.toList _ (fun u hu => blk_range hu) Tryd.underlying25 rfl (by rw [Array.length_toList]; exact hD3)) hS ?_
  rw [Array.toArray_toList]
  try simp only [Act.put, List.setIfInBounds_toArray, List.set_cons_zero, List.set_cons_succ]
  refine anyE_one (i := 2) rfl (by kernel_rfl) rfl (fun K hK => ?_)
  refine op_builtS 64 _ rfl _ rfl #[.int .i64 k, .int .i64 T] (by kernel_rfl) ?_
  refine hK.out _ _ (.inr hS) ?_
  clear hK
  try simp only [Act.put, List.setIfInBounds_toArray]
  refine anyE_one (i := 4) rfl (by kernel_rfl) rfl (fun K hK => ?_)
  refine op_store_row 64 _ _ rfl rfl o2 #[.int .i64 k, .int .i64 T] rfl rfl 64 #[.int .i64 0, .int .i64 0] hZ0 (sizeSig _ _) rfl (by first | kernel_rfl | simp [Value.oneCell']) ?_
  have hS1 := Blk.rowApart hS (show o1 ≠ o2 by omega) #[.int .i64 k, .int .i64 T]
  refine hK.out _ _ (.inr hS1) ?_
  clear hK
  refine anyE_one (i := 5) rfl (by kernel_rfl) rfl (fun K hK => ?_)
  refine op_store_row 25 _ _ rfl rfl o3 D rfl rfl 25 (drwA zeroH 0) (hY0.rowApart (show o3 ≠ o2 by omega) _) hD3 (by rw [drwA_size, hD1]) hD2 ?_
  have hS2 := Blk.rowApart hS1 (show o1 ≠ o3 by omega) D
  refine hK.out _ _ (.inr hS2) ?_
  clear hK
  refine anyE_one (i := 6) rfl (by kernel_rfl) rfl (fun K hK => ?_)
  go_simp
  refine hK.out _ _ (.inl rfl) (anyE_done (by kernel_rfl) ?_ _)
  clear hK
  go_wp2
  refine bodyPost_ret (results_row_row_tmp Tryd.results42 _ _ o2 o3 64 25 _ _ (0, 0) (0, 0) _ _ (by rfl) ((hZ0.row _).rowApart (show o2 ≠ o3 by omega) _) Tryd.underlying64 rfl (sizeSig _ _) (by rfl) ((hY0.rowApart (show o3 ≠ o2 by omega) _).row _) Tryd.underlying25 rfl hD3) rfl ⟨⟨k, T, D, 0, rfl, hD1, hD2, fun _ => ⟨HC.out, HSs.out, HVs.out⟩, fun h => absurd rfl h⟩, (hU0.setRow hl2 _).setRow hl3 _⟩
end Go.Proofs.YtdlcmpbpdbpanaaDoor
namespace Go.Proofs.YtdlcmpbpdbpanaaDoor
open Go.RowKit Go.Sp
set_option maxHeartbeats 4000000
set_option maxRecDepth 20000

theorem cloneB_any (v : Value) (xs : List Int) (w : World) (hv : SeqAt .u8 w v xs) (hne : xs ≠ []) (hl : xs.length ≤ 16384) :
    Calls Tryd.prog 24 #[v] w fun e w' => ∃ v', e = .returned v' ∧ OwnS 5 .u8 w' w.heap.size v' xs ∧ Up w w' := by
  have HV := hid hv
  have HL := hid hl
  obtain ⟨a, cap, rfl, _, _, _, hc⟩ := hv
  obtain ⟨b, off, rfl, _⟩ := hc hne
  have hn := fun (w : World) => Lib.run_eql_slice_nil (P := Tryd.prog) w 31 5 (some ⟨b, off, none⟩) xs.length cap 0 0 Tryd.underlying31
  clear hc hl hne
  go_enter Tryd.func24, Tryd.ntmps24
  go_wp2_with (at_builtin; refine wp_app infoU8 Tryd.underlying31 (by omega) rfl _ _ rfl w.heap.size rfl rfl (own_empty (Blk.new rfl rfl) (Nat.le_refl _)) (HV.out.up ((Up.refl w).alloc _)) (by have := HL.out; simp; omega) (by simp) ?_; intro v1 w1 hO1 hg1)
  have hU1 : Up w w1 := Up.own ((Up.refl w).alloc _) (own_empty (e := 5) (k := .u8) (base := w.heap.size) (Blk.new rfl rfl) (Nat.le_refl _)) hg1 (Nat.le_refl _)
  rw [List.nil_append] at hO1
  go_wp2
  go_ret
  exact ⟨v1, rfl, hO1, hU1⟩
end Go.Proofs.YtdlcmpbpdbpanaaDoor
namespace Go.Proofs.YtdlcmpbpdbpanaaDoor
open Go.RowKit Go.Sp
set_option maxHeartbeats 4000000
set_option maxRecDepth 20000

theorem p22Scalar_any (P Q G x : Int) (w : World) :
    Calls Tryd.prog 38 #[grp P Q G, .int .i64 x] w fun e w' => e = .returned (.bool (exB Q x)) ∧ Up w w' := by
  have HB : Hid (exB Q x = (decide (0 ≤ x) && decide (x < Q))) := hid rfl
  generalize exB Q x = X at *
  by_cases c1 : x ≥ 0
  case neg =>
    have d1 : decide (x ≥ 0) = false := by simpa using c1
    have hX : X = false := by rw [HB.out, show decide (0 ≤ x) = false from d1]; rfl
    subst hX
    clear c1
    go_enter Tryd.func38, Tryd.ntmps38
    go_wp2
    go_ret
    exact ⟨rfl, (Up.refl w).alloc _⟩
  have d1 : decide (x ≥ 0) = true := by simpa using c1
  have HB2 : Hid (X = decide (x < Q)) := hid (by rw [HB.out, show decide (0 ≤ x) = true from d1]; rfl)
  clear HB
  go_enter Tryd.func38, Tryd.ntmps38
  go_wp2
  go_ret
  exact ⟨by rw [HB2.out]; rfl, (Up.refl w).alloc _⟩

theorem SignatureApart_walk (P Q G x ct : Int) (h : Nat → Int) (v : Value) (m : List Int) (at' by' cc cs : Int) (w : World) (hP : -9223372036854775808 ≤ P) (hQ : Q ≤ 9223372036854775807) (hT : Tab w) (hS : TabS w) (hB : Byt h) (hv : SeqAt .u8 w v m) (hm : ∀ x ∈ m, 0 ≤ x ∧ x ≤ 255)
    (a0 : 0 ≤ at') (a1 : at' ≤ 65535) (c0' : 0 ≤ cc) (c1' : cc ≤ 255) (s0' : 0 ≤ cs) (s1' : cs ≤ 255) :
    Calls Tryd.prog 9 #[grp P Q G, .int .i64 x, v, drw h ct, .int .u16 at', .int .u8 by', .int .u8 cc, .int .u8 cs] w fun e w' => e = .returned (.bool true) ∧ Up w w' := by
  have HT := hid hT
  have HS := hid hS
  have HV := hid hv
  have HM := hid hm
  have M1 := hid (fun w' => rValid_any P Q G w' hP hQ)
  have M2 := hid (fun w' => p22Scalar_any P Q G x w')
  have M3 := hid (fun w' (hU : Up w w') (hg : gvB P Q G = true) (hx : exB Q x = true) (hl : m.length ≤ 16384) => sigSign_ok P Q G x ct h v m w' hP hQ (hT.up hU) (hS.up hU) hg hx hB (hv.up hU) hm hl)
  have M4 := hid (fun w' (hU : Up w w') (hg : gvB P Q G = true) (hx : exB Q x = true) => (by
    have h := sigKey_any P Q G x w' hP hQ (hT.up hU)
    rw [show errE (gvB P Q G) (exB Q x) = 0 by rw [hg, hx]; rfl] at h
    exact h : Calls Tryd.prog 43 #[grp P Q G, .int .i64 x] w' fun e w'' => e = .returned (.tuple #[.int .i64 (pwi P G x), .int .i64 0]) ∧ Up w' w''))
  have M5 := hid (fun w' (hU : Up w w') (v' : Value) (y c s : Int) (m' : List Int) (hv' : SeqAt .u8 w' v' m') (hm' : ∀ x ∈ m', 0 ≤ x ∧ x ≤ 255) => sigVerify_any P Q G y c s v' m' w' hP hQ (hT.up hU) (hS.up hU) hv' hm')
  have M6 := hid (fun w' (v' : Value) (hv' : SeqAt .u8 w' v' m) (hne : m ≠ []) (hl : m.length ≤ 16384) => cloneB_any v' m w' hv' hne hl)
  have M7 := hid (fun w' (hU : Up w w') (y c s : Int) => sigForge_any P Q G y c s w' hP hQ (hT.up hU))
  have M8 := hid (fun w' (hU : Up w w') (v' : Value) (r y : Int) (m' : List Int) (hv' : SeqAt .u8 w' v' m') (hm' : ∀ x ∈ m', 0 ≤ x ∧ x ≤ 255) => sigChallenge_any P Q G r y v' m' w' hP hQ (hT.up hU) (hS.up hU) hv' hm')
  have HSz := hid (sizeDrw h ct)
  unfold drw at M3 ⊢
  generalize drwA h ct = D0 at *
  obtain ⟨va, vc, rfl, _, _⟩ := hv.shape
  obtain ⟨n, hn⟩ : ∃ n, m.length = n := ⟨_, rfl⟩
  have HN := hid hn
  rw [hn] at M3 HV ⊢
  obtain ⟨o, ho⟩ : ∃ o, w.heap.size = o := ⟨_, rfl⟩
  have HO := hid ho
  obtain ⟨o1, ho1⟩ : ∃ o1, o + 1 = o1 := ⟨_, rfl⟩
  have HO1 := hid ho1
  clear hT hS hv hm hB hn ho ho1
  go_enter Tryd.func9, Tryd.ntmps9
  go_wp2_with fail
  refine (awake22 _ (HT.out.up (((Up.refl w).alloc _).alloc _))).mono ?_
  rintro e w1 ⟨rfl, hU1⟩
  have HA1 := hid (((nums_three (w := w) (t := 52) HO.out).up ((Up.refl _).alloc _)).up hU1)
  have HD1 := hid (((Blk.new (g := o1) (t := 25) (cs := D0) (by have := HO.out; have := HO1.out; simp; omega) rfl)).up hU1)
  have HU1 := hid ((((Up.refl w).alloc _).alloc _).trans hU1)
  clear hU1
  rw [HO.out, HO1.out]
  obtain ⟨c0, c1, c2⟩ := HA1.out
  by_cases hl : n > 500
  case pos =>
    have dl : decide ((n : Int) > 500) = true := by simp; omega
    clear hl
    go_wp2
    go_ret
    exact ⟨rfl, HU1.out⟩
  have dl : decide ((n : Int) > 500) = false := by simp; omega
  by_cases hz : n = 0
  case pos =>
    have d0 : ((n : Int) == 0) = true := by simp; omega
    clear hl hz
    go_wp2
    go_ret
    exact ⟨rfl, HU1.out⟩
  have d0 : ((n : Int) == 0) = false := by simp; omega
  have HNe : Hid (m ≠ []) := hid (fun e => hz (by rw [← HN.out, e]; rfl))
  have HL : Hid (n ≤ 500) := hid (by omega)
  clear hl
  go_wp2_with fail
  refine (M1.out _).mono ?_
  rintro e w2 ⟨rfl, hU2⟩
  have HA2 := hid (HA1.out.up hU2)
  have HD2 := hid (HD1.out.up hU2)
  have HU2 := hid (HU1.out.trans hU2)
  clear hU2 HA1 HD1 HU1 c0 c1 c2
  obtain ⟨c0, c1, c2⟩ := HA2.out
  by_cases hg : gvB P Q G = true
  case neg =>
    have h' : gvB P Q G = false := by simpa using hg
    rw [h']
    clear hg h'
    go_wp2
    go_ret
    exact ⟨rfl, HU2.out⟩
  have Hg := hid hg
  rw [hg]
  clear hg
  go_wp2_with fail
  refine (M2.out _).mono ?_
  rintro e w3 ⟨rfl, hU3⟩
  have HA3 := hid (HA2.out.up hU3)
  have HD3 := hid (HD2.out.up hU3)
  have HU3 := hid (HU2.out.trans hU3)
  clear hU3 HA2 HD2 HU2 c0 c1 c2
  obtain ⟨c0, c1, c2⟩ := HA3.out
  by_cases hx : exB Q x = true
  case neg =>
    have h' : exB Q x = false := by simpa using hx
    rw [h']
    clear hx h'
    go_wp2
    go_ret
    exact ⟨rfl, HU3.out⟩
  have Hx := hid hx
  rw [hx]
  clear hx
  have q2 := (gv_iff.1 Hg.out).Q3
  go_wp2_with (first | (refine wpList_load_row rfl 25 _ rfl o1 rfl 25 D0 (0, 0) _ HD3.out Tryd.underlying25 rfl HSz.out ?_) | (refine wpList_load_rowG (by rfl) 25 _ rfl o1 rfl 25 D0 (0, 0) _ HD3.out Tryd.underlying25 rfl HSz.out ?_))
  refine (M3.out _ HU3.out Hg.out Hx.out (by have := HL.out; have := HN.out; omega)).mono ?_
  rintro e w4 ⟨⟨C, S, D, E, rfl, hD1, hD2, hE0, hE1⟩, hU4⟩
  have hD3 : (Tryd.prog.info? 25).map (·.size) = some D.size := by rw [hD1]; kernel_rfl
  have HA4 := hid (HA3.out.up hU4)
  have HU4 := hid (HU3.out.trans hU4)
  clear hU4 HA3 HU3 HD3 c0 c1 c2
  obtain ⟨b, hb⟩ : ∃ b, w4.heap.size = b := ⟨_, rfl⟩
  have HBb := hid hb
  have loo : o < b := by rw [← hb]; exact cell_lt HA4.out.1
  clear hb
  have hb0 := (Blk.new (w := w4) (g := w4.heap.size) (t := 64) (cs := #[.int .i64 0, .int .i64 0]) rfl rfl).alloc (.cells #[.int .u8 0, .int .u8 0, .int .u8 0, .int .u8 0, .int .u8 0, .int .u8 0, .int .u8 0, .int .u8 0, .int .u8 0, .int .u8 0, .int .u8 0, .int .u8 0, .int .u8 0, .int .u8 0, .int .u8 0, .int .u8 0, .int .u8 0, .int .u8 0, .int .u8 0, .int .u8 0, .int .u8 0, .int .u8 0, .int .u8 0, .int .u8 0, .int .u8 0, .int .u8 0, .int .u8 0, .int .u8 0, .int .u8 0, .int .u8 0, .int .u8 0, .int .u8 0, .int .i64 0] 25)
  have hb1 := Blk.new (w := w4.alloc (.cells #[.int .i64 0, .int .i64 0] 64)) (t := 25) (g := w4.heap.size + 1) (by simp) zero33
  have hA := HA4.out.up (((Up.refl w4).alloc (.cells #[.int .i64 0, .int .i64 0] 64)).alloc (.cells #[.int .u8 0, .int .u8 0, .int .u8 0, .int .u8 0, .int .u8 0, .int .u8 0, .int .u8 0, .int .u8 0, .int .u8 0, .int .u8 0, .int .u8 0, .int .u8 0, .int .u8 0, .int .u8 0, .int .u8 0, .int .u8 0, .int .u8 0, .int .u8 0, .int .u8 0, .int .u8 0, .int .u8 0, .int .u8 0, .int .u8 0, .int .u8 0, .int .u8 0, .int .u8 0, .int .u8 0, .int .u8 0, .int .u8 0, .int .u8 0, .int .u8 0, .int .u8 0, .int .i64 0] 25))
  have hu := ((HU4.out.alloc (.cells #[.int .i64 0, .int .i64 0] 64)).alloc (.cells #[.int .u8 0, .int .u8 0, .int .u8 0, .int .u8 0, .int .u8 0, .int .u8 0, .int .u8 0, .int .u8 0, .int .u8 0, .int .u8 0, .int .u8 0, .int .u8 0, .int .u8 0, .int .u8 0, .int .u8 0, .int .u8 0, .int .u8 0, .int .u8 0, .int .u8 0, .int .u8 0, .int .u8 0, .int .u8 0, .int .u8 0, .int .u8 0, .int .u8 0, .int .u8 0, .int .u8 0, .int .u8 0, .int .u8 0, .int .u8 0, .int .u8 0, .int .u8 0, .int .i64 0] 25))
  have hA5 : GrpAt (((((w4.alloc (.cells #[.int .i64 0, .int .i64 0] 64)).alloc (.cells #[.int .u8 0, .int .u8 0, .int .u8 0, .int .u8 0, .int .u8 0, .int .u8 0, .int .u8 0, .int .u8 0, .int .u8 0, .int .u8 0, .int .u8 0, .int .u8 0, .int .u8 0, .int .u8 0, .int .u8 0, .int .u8 0, .int .u8 0, .int .u8 0, .int .u8 0, .int .u8 0, .int .u8 0, .int .u8 0, .int .u8 0, .int .u8 0, .int .u8 0, .int .u8 0, .int .u8 0, .int .u8 0, .int .u8 0, .int .u8 0, .int .u8 0, .int .u8 0, .int .i64 0] 25)).setRow w4.heap.size #[.int .i64 C, .int .i64 S])).setRow (w4.heap.size + 1) D) o P Q G := grp_row (grp_row hA (by have := HBb.out; omega)) (by have := HBb.out; omega)
  obtain ⟨c0, c1, c2⟩ := hA5
  go_wp2_with (first
    | (refine wpList_store_rowTo rfl 64 _ _ rfl rfl w4.heap.size #[.int .i64 C, .int .i64 S] rfl rfl 64 #[.int .i64 0, .int .i64 0] hb0 (sizeSig _ _) rfl (by first | kernel_rfl | simp [Value.oneCell']) ?_)
    | (refine wpList_store_rowTo rfl 25 _ _ rfl rfl (w4.heap.size + 1) D rfl rfl 25 (drwA zeroH 0) (hb1.rowApart (show w4.heap.size + 1 ≠ w4.heap.size by omega) _) hD3 (by rw [drwA_size, hD1]) hD2 ?_))
  have HA5 : Hid (GrpAt (((((w4.alloc (.cells #[.int .i64 0, .int .i64 0] 64)).alloc (.cells #[.int .u8 0, .int .u8 0, .int .u8 0, .int .u8 0, .int .u8 0, .int .u8 0, .int .u8 0, .int .u8 0, .int .u8 0, .int .u8 0, .int .u8 0, .int .u8 0, .int .u8 0, .int .u8 0, .int .u8 0, .int .u8 0, .int .u8 0, .int .u8 0, .int .u8 0, .int .u8 0, .int .u8 0, .int .u8 0, .int .u8 0, .int .u8 0, .int .u8 0, .int .u8 0, .int .u8 0, .int .u8 0, .int .u8 0, .int .u8 0, .int .u8 0, .int .u8 0, .int .i64 0] 25)).setRow w4.heap.size #[.int .i64 C, .int .i64 S])).setRow (w4.heap.size + 1) D) o P Q G) := hid ⟨c0, c1, c2⟩
  have HT5 := hid ((hb0.row #[.int .i64 C, .int .i64 S]).rowApart (show w4.heap.size ≠ w4.heap.size + 1 by omega) D)
  have HU5 := hid ((hu.setRow HU4.out.size #[.int .i64 C, .int .i64 S]).setRow (show w.heap.size ≤ w4.heap.size + 1 by have := HU4.out.size; omega) D)
  rw [HBb.out] at HT5 ⊢
  rw [HBb.out] at HA5 HU5
  clear c0 c1 c2 hb0 hb1 hA hu HA4 HU4 hD1 hD2 hD3
  generalize ((((w4.alloc (.cells #[.int .i64 0, .int .i64 0] 64)).alloc (.cells #[.int .u8 0, .int .u8 0, .int .u8 0, .int .u8 0, .int .u8 0, .int .u8 0, .int .u8 0, .int .u8 0, .int .u8 0, .int .u8 0, .int .u8 0, .int .u8 0, .int .u8 0, .int .u8 0, .int .u8 0, .int .u8 0, .int .u8 0, .int .u8 0, .int .u8 0, .int .u8 0, .int .u8 0, .int .u8 0, .int .u8 0, .int .u8 0, .int .u8 0, .int .u8 0, .int .u8 0, .int .u8 0, .int .u8 0, .int .u8 0, .int .u8 0, .int .u8 0, .int .i64 0] 25)).setRow b #[.int .i64 C, .int .i64 S])).setRow (b + 1) D = w5 at *
  obtain ⟨c0, c1, c2⟩ := HA5.out
  have t0 := HT5.out.val (i := 0) rfl
  have t1 := HT5.out.val (i := 1) rfl
  refine (M4.out _ (HU5.out) Hg.out Hx.out).mono ?_
  rintro e w6 ⟨rfl, hU6⟩
  have HA6 := hid (HA5.out.up hU6)
  have HT6 := hid (HT5.out.up hU6)
  have HU6 := hid (HU5.out.trans hU6)
  clear hU6 HA5 HT5 HU5 c0 c1 c2 t0 t1
  obtain ⟨c0, c1, c2⟩ := HA6.out
  have t0 := HT6.out.val (i := 0) rfl
  have t1 := HT6.out.val (i := 1) rfl
  by_cases h0 : E = 0
  case neg =>
    have d : (E != 0) = true := by simpa using h0
    obtain ⟨rfl, rfl⟩ := hE1 h0
    clear h0
    go_wp2
    go_ret
    exact ⟨rfl, HU6.out⟩
  obtain ⟨hC, hS', hVr⟩ := hE0 h0
  subst h0
  obtain ⟨C0, C1⟩ := exB_iff.1 hC
  obtain ⟨S0, S1⟩ := exB_iff.1 hS'
  have e1 : decide (C < 0) = false := by simp; omega
  have e2 : decide (C ≥ Q) = false := by simp; omega
  have e3 : decide (S < 0) = false := by simp; omega
  have e4 : decide (S ≥ Q) = false := by simp; omega
  have N5 := hid (fun w' (hU : Up w w') => M5.out w' hU _ (pwi P G x) C S m (HV.out.up hU) HM.out)
  rw [hVr] at N5
  have Hy : Hid (elB P Q (pwi P G x) = true) := hid (el_pw (by have := (gv_iff.1 Hg.out).P4; omega) (by omega) (sgen_el Hg.out) _)
  obtain ⟨y, hy⟩ : ∃ y, pwi P G x = y := ⟨_, rfl⟩
  rw [hy] at N5 Hy ⊢
  clear hy hE0 hE1 hVr
  go_wp2_with fail
  obtain ⟨yv, hyv⟩ : ∃ k : Nat, k = 0 := ⟨_, rfl⟩
  clear hyv yv
  refine (N5.out _ (HU6.out)).mono ?_
  rintro e w7 ⟨rfl, hU7⟩
  have HA7 := hid (HA6.out.up hU7)
  have HT7 := hid (HT6.out.up hU7)
  have HU7 := hid (HU6.out.trans hU7)
  clear hU7 HA6 HT6 HU6 c0 c1 c2 t0 t1
  obtain ⟨c0, c1, c2⟩ := HA7.out
  have t0 := HT7.out.val (i := 0) rfl
  have t1 := HT7.out.val (i := 1) rfl
  go_wp2_with fail
  refine (M6.out _ _ (by have := HV.out.up HU7.out; exact this) HNe.out (by have := HL.out; have := HN.out; omega)).mono ?_
  rintro e w8 ⟨v', rfl, hO, hU8⟩
  obtain ⟨g, cap, rfl, hbg⟩ : ∃ g cap, v' = .slice (some ⟨g, 0, none⟩) m.length cap ∧ w7.heap.size ≤ g := by
    rcases hO.2 with ⟨_, h0⟩ | ⟨g, cap, cur, hv, hb, _⟩
    · exact absurd h0 (by have := HN.out; omega)
    · exact ⟨g, cap, hv, hb⟩
  rw [HN.out]
  have HA8 := hid (HA7.out.up hU8)
  have HT8 := hid (HT7.out.up hU8)
  have hgb : w.heap.size ≤ g := by have := HU7.out.size; omega
  have hgo : o ≠ g := by have := cell_lt HA7.out.1; omega
  have hgt : b ≠ g := by have := HT7.out.lt; omega
  have HU8 := hid (HU7.out.trans hU8)
  clear hU8 HA7 HT7 HU7 c0 c1 c2 t0 t1
  obtain ⟨j, hj, hjn⟩ : ∃ j : Nat, at' % (n : Int) = j ∧ j < n := by
    have h1 := Int.emod_nonneg at' (show (n : Int) ≠ 0 by omega)
    have h2 := Int.emod_lt_of_pos at' (show 0 < (n : Int) by omega)
    exact ⟨(at' % (n : Int)).toNat, by omega, by omega⟩
  have ht : at'.tmod (n : Int) = (j : Int) := by rw [Int.tmod_eq_emod_of_nonneg a0, hj]
  have hwa : IntKind.i64.wrap at' = at' := by rw [IntKind.wrap_i64]; omega
  have kc : w8.cell? ⟨g, j, none⟩ = some (.int .u8 (m.getD j 0)) := by
    have h := World.ownsRow.cellAt hO j (by have := HN.out; omega)
    rw [h]
    have hjm : j < m.length := by have := HN.out; omega
    simp [hjm]
  have kf := World.ownsRow.frozenAt hO j
  obtain ⟨c0, c1, c2⟩ := HA8.out
  have t0 := HT8.out.val (i := 0) rfl
  have t1 := HT8.out.val (i := 1) rfl
  go_wp2_with fail
  obtain ⟨Y, hYd⟩ : ∃ Y, bits BinOp.xor .u8 (m[j]?.getD 0) by' = Y := ⟨_, rfl⟩
  have Y0 : 0 ≤ Y := by rw [← hYd]; exact bits_lo_u8 _ _ _
  have Y1 : Y ≤ 255 := by rw [← hYd]; exact bits_hi_u8 _ _ _
  rw [hYd]
  have hO9 : OwnS 5 .u8 (w8.setCell ⟨g, j, none⟩ (.int .u8 Y)) w7.heap.size (.slice (some ⟨g, 0, none⟩) m.length cap) (m.set j Y) := by
    have h := (World.ownsRow.stored hO j (.int .u8 Y)).1
    unfold OwnS
    rw [List.length_set, List.map_set]
    exact h
  have HO9 := hid hO9.seq
  have HM9 : Hid (∀ x ∈ m.set j Y, 0 ≤ x ∧ x ≤ 255) := hid (fun x hx => by
    rcases List.mem_or_eq_of_mem_set hx with h | h
    · exact HM.out x h
    · omega)
  have HA9 : Hid (GrpAt (w8.setCell ⟨g, j, none⟩ (.int .u8 Y)) o P Q G) := hid ⟨by rw [World.cell?_setCell_other _ _ _ _ (by simp)]; exact c0, by rw [World.cell?_setCell_other _ _ _ _ (by simp)]; exact c1, by rw [World.cell?_setCell_other _ _ _ _ (by simp)]; exact c2⟩
  have HT9 := hid (HT8.out.apart (a := ⟨g, j, none⟩) hgt (.int .u8 Y))
  have HU9 := hid (HU8.out.setCell (a := ⟨g, j, none⟩) hgb (.int .u8 Y))
  have HN9 : Hid ((m.set j Y).length ≤ 500) := hid (by rw [List.length_set]; have := HL.out; have := HN.out; omega)
  have hln : m.length = (m.set j Y).length := by simp
  rw [hln] at HO9
  rw [← HN.out, hln]
  generalize w8.setCell ⟨g, j, none⟩ (.int .u8 Y) = w9 at *
  clear hO hO9 hbg HA8 HT8 HU8 kc kf c0 c1 c2 t0 t1 hln hYd
  generalize m.set j Y = m' at *
  have q61 := (gv_iff.1 Hg.out).P61
  have qp := (gv_iff.1 Hg.out).QP
  have fz : ¬ Q = 0 := by omega
  have fw1 : IntKind.i64.wrap cc = cc := by rw [IntKind.wrap_i64]; omega
  have fw2 : IntKind.i64.wrap cs = cs := by rw [IntKind.wrap_i64]; omega
  have fm1 : cc.tmod Q = cc % Q := Int.tmod_eq_emod_of_nonneg c0'
  have fm2 : cs.tmod Q = cs % Q := Int.tmod_eq_emod_of_nonneg s0'
  obtain ⟨x1, hx1⟩ : ∃ x1, cc % Q = x1 := ⟨_, rfl⟩
  obtain ⟨x2, hx2⟩ : ∃ x2, cs % Q = x2 := ⟨_, rfl⟩
  have x10 : 0 ≤ x1 := by rw [← hx1]; exact Int.emod_nonneg _ (by omega)
  have x11 : x1 < Q := by rw [← hx1]; exact Int.emod_lt_of_pos _ (by omega)
  have x20 : 0 ≤ x2 := by rw [← hx2]; exact Int.emod_nonneg _ (by omega)
  have x21 : x2 < Q := by rw [← hx2]; exact Int.emod_lt_of_pos _ (by omega)
  rw [hx1] at fm1
  rw [hx2] at fm2
  have fa1 : IntKind.i64.wrap (C + x1) = C + x1 := by rw [IntKind.wrap_i64]; omega
  have fa2 : IntKind.i64.wrap (S + x2) = S + x2 := by rw [IntKind.wrap_i64]; omega
  have fn1 : (C + x1).tmod Q = (C + x1) % Q := Int.tmod_eq_emod_of_nonneg (by omega)
  have fn2 : (S + x2).tmod Q = (S + x2) % Q := Int.tmod_eq_emod_of_nonneg (by omega)
  obtain ⟨ca, hca⟩ : ∃ ca, (C + x1) % Q = ca := ⟨_, rfl⟩
  obtain ⟨sa, hsa⟩ : ∃ sa, (S + x2) % Q = sa := ⟨_, rfl⟩
  have Xc : exB Q ca = true := exB_iff.2 ⟨by rw [← hca]; exact Int.emod_nonneg _ (by omega), by rw [← hca]; exact Int.emod_lt_of_pos _ (by omega)⟩
  have Xs : exB Q sa = true := exB_iff.2 ⟨by rw [← hsa]; exact Int.emod_nonneg _ (by omega), by rw [← hsa]; exact Int.emod_lt_of_pos _ (by omega)⟩
  rw [hca] at fn1
  rw [hsa] at fn2
  clear hca hsa hx1 hx2
  have hl9 : w.heap.size ≤ w9.heap.size := HU9.out.size
  refine region_E (fun w' => GrpAt w' o P Q G ∧ Blk w' b 64 #[.int .i64 C, .int .i64 S]) 25 (by kernel_rfl) ⟨HA9.out.up (Up.refl _).drew, Blk.up HT9.out (Up.refl _).drew⟩ fun hS => ?_
  have hU := HU9.out.drew
  have hY := HO9.out.up (Up.refl w9).drew
  have hl9' : w9.heap.size = w9.drew.heap.size := by rfl
  rw [hl9'] at hl9
  generalize w9.drew = v0 at *
  refine anyE_takeA (i := 0) (v := ?_) 114 rfl rfl (by kernel_rfl) (by decide) (fun _ _ _ h => h) (by kernel_rfl) (by kernel_rfl) (.inl ⟨by rfl, fun u hu => ?_⟩) hS ?_
  rotate_left
  · (obtain ⟨⟨u0, u1, u2⟩, u3⟩ := hu; have z0 := u3.val (i := 0) rfl; have z1 := u3.val (i := 1) rfl; go_simp; first | done | with_reducible rfl | (rw [if_neg fz]; with_reducible rfl))
  try simp only [Act.put, List.setIfInBounds_toArray, List.set_cons_zero, List.set_cons_succ]
  refine anyE_takeA (i := 1) (v := ?_) 115 rfl rfl (by kernel_rfl) (by decide) (fun _ _ _ h => h) (by kernel_rfl) (by kernel_rfl) (.inl ⟨by rfl, fun u hu => ?_⟩) hS ?_
  rotate_left
  · (obtain ⟨⟨u0, u1, u2⟩, u3⟩ := hu; have z0 := u3.val (i := 0) rfl; have z1 := u3.val (i := 1) rfl; go_simp; first | done | with_reducible rfl | (rw [if_neg fz]; with_reducible rfl))
  try simp only [Act.put, List.setIfInBounds_toArray, List.set_cons_zero, List.set_cons_succ]
  refine anyE_takeA (i := 2) (v := ?_) 116 rfl rfl (by kernel_rfl) (by decide) (fun _ _ _ h => h) (by kernel_rfl) (by kernel_rfl) (.inl ⟨by rfl, fun u hu => ?_⟩) hS ?_
  rotate_left
  · (obtain ⟨⟨u0, u1, u2⟩, u3⟩ := hu; have z0 := u3.val (i := 0) rfl; have z1 := u3.val (i := 1) rfl; go_simp; first | done | with_reducible rfl | (rw [if_neg fz]; with_reducible rfl))
  try simp only [Act.put, List.setIfInBounds_toArray, List.set_cons_zero, List.set_cons_succ]
  refine anyE_takeA (i := 3) (v := ?_) 117 rfl rfl (by kernel_rfl) (by decide) (fun _ _ _ h => h) (by kernel_rfl) (by kernel_rfl) (.inl ⟨by rfl, fun u hu => ?_⟩) hS ?_
  rotate_left
  · (obtain ⟨⟨u0, u1, u2⟩, u3⟩ := hu; have z0 := u3.val (i := 0) rfl; have z1 := u3.val (i := 1) rfl; go_simp; first | done | with_reducible rfl | (rw [if_neg fz]; with_reducible rfl))
  try simp only [Act.put, List.setIfInBounds_toArray, List.set_cons_zero, List.set_cons_succ]
  refine anyE_takeA (i := 4) (v := ?_) 118 rfl rfl (by kernel_rfl) (by decide) (fun _ _ _ h => h) (by kernel_rfl) (by kernel_rfl) (.inl ⟨by rfl, fun u hu => ?_⟩) hS ?_
  rotate_left
  · (obtain ⟨⟨u0, u1, u2⟩, u3⟩ := hu; have z0 := u3.val (i := 0) rfl; have z1 := u3.val (i := 1) rfl; go_simp; first | done | with_reducible rfl | (rw [if_neg fz]; with_reducible rfl))
  try simp only [Act.put, List.setIfInBounds_toArray, List.set_cons_zero, List.set_cons_succ]
  refine anyE_takeA (i := 5) (v := ?_) 119 rfl rfl (by kernel_rfl) (by decide) (fun _ _ _ h => h) (by kernel_rfl) (by kernel_rfl) (.inl ⟨by rfl, fun u hu => ?_⟩) hS ?_
  rotate_left
  · (obtain ⟨⟨u0, u1, u2⟩, u3⟩ := hu; have z0 := u3.val (i := 0) rfl; have z1 := u3.val (i := 1) rfl; go_simp; first | done | with_reducible rfl | (rw [if_neg fz]; with_reducible rfl))
  try simp only [Act.put, List.setIfInBounds_toArray, List.set_cons_zero, List.set_cons_succ]
  refine anyE_takeA (i := 6) (v := ?_) 120 rfl rfl (by kernel_rfl) (by decide) (fun _ _ _ h => h) (by kernel_rfl) (by kernel_rfl) (.inl ⟨by rfl, fun u hu => ?_⟩) hS ?_
  rotate_left
  · (obtain ⟨⟨u0, u1, u2⟩, u3⟩ := hu; have z0 := u3.val (i := 0) rfl; have z1 := u3.val (i := 1) rfl; go_simp; first | done | with_reducible rfl | (rw [if_neg fz]; with_reducible rfl))
  try simp only [Act.put, List.setIfInBounds_toArray, List.set_cons_zero, List.set_cons_succ]
  refine anyE_takeA (i := 7) (v := ?_) 121 rfl rfl (by kernel_rfl) (by decide) (fun _ _ _ h => h) (by kernel_rfl) (by kernel_rfl) (.inl ⟨by rfl, fun u hu => ?_⟩) hS ?_
  rotate_left
  · (obtain ⟨⟨u0, u1, u2⟩, u3⟩ := hu; have z0 := u3.val (i := 0) rfl; have z1 := u3.val (i := 1) rfl; go_simp; first | done | with_reducible rfl | (rw [if_neg fz]; with_reducible rfl))
  try simp only [Act.put, List.setIfInBounds_toArray, List.set_cons_zero, List.set_cons_succ]
  refine anyE_takeA (i := 8) (v := ?_) 122 rfl rfl (by kernel_rfl) (by decide) (fun _ _ _ h => h) (by kernel_rfl) (by kernel_rfl) (.inl ⟨by rfl, fun u hu => ?_⟩) hS ?_
  rotate_left
  · (obtain ⟨⟨u0, u1, u2⟩, u3⟩ := hu; have z0 := u3.val (i := 0) rfl; have z1 := u3.val (i := 1) rfl; go_simp; first | done | with_reducible rfl | (rw [if_neg fz]; with_reducible rfl))
  try simp only [Act.put, List.setIfInBounds_toArray, List.set_cons_zero, List.set_cons_succ]
  refine anyE_takeA (i := 9) (v := ?_) 123 rfl rfl (by kernel_rfl) (by decide) (fun _ _ _ h => h) (by kernel_rfl) (by kernel_rfl) (.inl ⟨by rfl, fun u hu => ?_⟩) hS ?_
  rotate_left
  · (obtain ⟨⟨u0, u1, u2⟩, u3⟩ := hu; have z0 := u3.val (i := 0) rfl; have z1 := u3.val (i := 1) rfl; go_simp; first | done | with_reducible rfl | (rw [if_neg fz]; with_reducible rfl))
  try simp only [Act.put, List.setIfInBounds_toArray, List.set_cons_zero, List.set_cons_succ]
  refine anyE_takeA (i := 10) (v := ?_) 124 rfl rfl (by kernel_rfl) (by decide) (fun _ _ _ h => h) (by kernel_rfl) (by kernel_rfl) (.inl ⟨by rfl, fun u hu => ?_⟩) hS ?_
  rotate_left
  · (obtain ⟨⟨u0, u1, u2⟩, u3⟩ := hu; have z0 := u3.val (i := 0) rfl; have z1 := u3.val (i := 1) rfl; go_simp; first | done | with_reducible rfl | (rw [if_neg fz]; with_reducible rfl))
  try simp only [Act.put, List.setIfInBounds_toArray, List.set_cons_zero, List.set_cons_succ]
  refine anyE_takeA (i := 11) (v := ?_) 125 rfl rfl (by kernel_rfl) (by decide) (fun _ _ _ h => h) (by kernel_rfl) (by kernel_rfl) (.inl ⟨by rfl, fun u hu => ?_⟩) hS ?_
  rotate_left
  · (obtain ⟨⟨u0, u1, u2⟩, u3⟩ := hu; have z0 := u3.val (i := 0) rfl; have z1 := u3.val (i := 1) rfl; go_simp; first | done | with_reducible rfl | (rw [if_neg fz]; with_reducible rfl))
  try simp only [Act.put, List.setIfInBounds_toArray, List.set_cons_zero, List.set_cons_succ]
  refine anyE_takeA (i := 12) (v := ?_) 126 rfl rfl (by kernel_rfl) (by decide) (fun _ _ _ h => h) (by kernel_rfl) (by kernel_rfl) (.inl ⟨by rfl, fun u hu => ?_⟩) hS ?_
  rotate_left
  · (obtain ⟨⟨u0, u1, u2⟩, u3⟩ := hu; have z0 := u3.val (i := 0) rfl; have z1 := u3.val (i := 1) rfl; go_simp; first | done | with_reducible rfl | (rw [if_neg fz]; with_reducible rfl))
  try simp only [Act.put, List.setIfInBounds_toArray, List.set_cons_zero, List.set_cons_succ]
  refine anyE_takeA (i := 13) (v := ?_) 127 rfl rfl (by kernel_rfl) (by decide) (fun _ _ _ h => h) (by kernel_rfl) (by kernel_rfl) (.inl ⟨by rfl, fun u hu => ?_⟩) hS ?_
  rotate_left
  · (obtain ⟨⟨u0, u1, u2⟩, u3⟩ := hu; have z0 := u3.val (i := 0) rfl; have z1 := u3.val (i := 1) rfl; go_simp; first | done | with_reducible rfl | (rw [if_neg fz]; with_reducible rfl))
  try simp only [Act.put, List.setIfInBounds_toArray, List.set_cons_zero, List.set_cons_succ]
  refine anyE_takeA (i := 14) (v := ?_) 128 rfl rfl (by kernel_rfl) (by decide) (fun _ _ _ h => h) (by kernel_rfl) (by kernel_rfl) (.inl ⟨by rfl, fun u hu => ?_⟩) hS ?_
  rotate_left
  · (obtain ⟨⟨u0, u1, u2⟩, u3⟩ := hu; have z0 := u3.val (i := 0) rfl; have z1 := u3.val (i := 1) rfl; go_simp; first | done | with_reducible rfl | (rw [if_neg fz]; with_reducible rfl))
  try simp only [Act.put, List.setIfInBounds_toArray, List.set_cons_zero, List.set_cons_succ]
  refine anyE_takeA (i := 15) (v := ?_) 129 rfl rfl (by kernel_rfl) (by decide) (fun _ _ _ h => h) (by kernel_rfl) (by kernel_rfl) (.inl ⟨by rfl, fun u hu => ?_⟩) hS ?_
  rotate_left
  · (obtain ⟨⟨u0, u1, u2⟩, u3⟩ := hu; have z0 := u3.val (i := 0) rfl; have z1 := u3.val (i := 1) rfl; go_simp; first | done | with_reducible rfl | (rw [if_neg fz]; with_reducible rfl))
  try simp only [Act.put, List.setIfInBounds_toArray, List.set_cons_zero, List.set_cons_succ]
  refine anyE_takeA (i := 16) (v := ?_) 130 rfl rfl (by kernel_rfl) (by decide) (fun _ _ _ h => h) (by kernel_rfl) (by kernel_rfl) (.inl ⟨by rfl, fun u hu => ?_⟩) hS ?_
  rotate_left
  · (obtain ⟨⟨u0, u1, u2⟩, u3⟩ := hu; have z0 := u3.val (i := 0) rfl; have z1 := u3.val (i := 1) rfl; go_simp; first | done | with_reducible rfl | (rw [if_neg fz]; with_reducible rfl))
  try simp only [Act.put, List.setIfInBounds_toArray, List.set_cons_zero, List.set_cons_succ]
  refine anyE_takeA (i := 17) (v := ?_) 131 rfl rfl (by kernel_rfl) (by decide) (fun _ _ _ h => h) (by kernel_rfl) (by kernel_rfl) (.inl ⟨by rfl, fun u hu => ?_⟩) hS ?_
  rotate_left
  · (obtain ⟨⟨u0, u1, u2⟩, u3⟩ := hu; have z0 := u3.val (i := 0) rfl; have z1 := u3.val (i := 1) rfl; go_simp; first | done | with_reducible rfl | (rw [if_neg fz]; with_reducible rfl))
  try simp only [Act.put, List.setIfInBounds_toArray, List.set_cons_zero, List.set_cons_succ]
  refine anyE_takeA (i := 18) (v := ?_) 132 rfl rfl (by kernel_rfl) (by decide) (fun _ _ _ h => h) (by kernel_rfl) (by kernel_rfl) (.inl ⟨by rfl, fun u hu => ?_⟩) hS ?_
  rotate_left
  · (obtain ⟨⟨u0, u1, u2⟩, u3⟩ := hu; have z0 := u3.val (i := 0) rfl; have z1 := u3.val (i := 1) rfl; go_simp; first | done | with_reducible rfl | (rw [if_neg fz]; with_reducible rfl))
  try simp only [Act.put, List.setIfInBounds_toArray, List.set_cons_zero, List.set_cons_succ]
  refine anyE_takeA (i := 19) (v := ?_) 133 rfl rfl (by kernel_rfl) (by decide) (fun _ _ _ h => h) (by kernel_rfl) (by kernel_rfl) (.inl ⟨by rfl, fun u hu => ?_⟩) hS ?_
  rotate_left
  · (obtain ⟨⟨u0, u1, u2⟩, u3⟩ := hu; have z0 := u3.val (i := 0) rfl; have z1 := u3.val (i := 1) rfl; go_simp; first | done | with_reducible rfl | (rw [if_neg fz]; with_reducible rfl))
  try simp only [Act.put, List.setIfInBounds_toArray, List.set_cons_zero, List.set_cons_succ]
  refine anyE_takeA (i := 20) (v := ?_) 134 rfl rfl (by kernel_rfl) (by decide) (fun _ _ _ h => h) (by kernel_rfl) (by kernel_rfl) (.inl ⟨by rfl, fun u hu => ?_⟩) hS ?_
  rotate_left
  · (obtain ⟨⟨u0, u1, u2⟩, u3⟩ := hu; have z0 := u3.val (i := 0) rfl; have z1 := u3.val (i := 1) rfl; go_simp; first | done | with_reducible rfl | (rw [if_neg fz]; with_reducible rfl))
  try simp only [Act.put, List.setIfInBounds_toArray, List.set_cons_zero, List.set_cons_succ]
  refine anyE_takeA (i := 21) (v := ?_) 135 rfl rfl (by kernel_rfl) (by decide) (fun _ _ _ h => h) (by kernel_rfl) (by kernel_rfl) (.inl ⟨by rfl, fun u hu => ?_⟩) hS ?_
  rotate_left
  · (obtain ⟨⟨u0, u1, u2⟩, u3⟩ := hu; have z0 := u3.val (i := 0) rfl; have z1 := u3.val (i := 1) rfl; go_simp; first | done | with_reducible rfl | (rw [if_neg fz]; with_reducible rfl))
  try simp only [Act.put, List.setIfInBounds_toArray, List.set_cons_zero, List.set_cons_succ]
  refine anyE_takeA (i := 22) (v := ?_) 136 rfl rfl (by kernel_rfl) (by decide) (fun _ _ _ h => h) (by kernel_rfl) (by kernel_rfl) (.inl ⟨by rfl, fun u hu => ?_⟩) hS ?_
  rotate_left
  · (obtain ⟨⟨u0, u1, u2⟩, u3⟩ := hu; have z0 := u3.val (i := 0) rfl; have z1 := u3.val (i := 1) rfl; go_simp; first | done | with_reducible rfl | (rw [if_neg fz]; with_reducible rfl))
  try simp only [Act.put, List.setIfInBounds_toArray, List.set_cons_zero, List.set_cons_succ]
  refine anyE_one (i := 23) rfl (by kernel_rfl) rfl (fun K hK => ?_)
  go_simp
  obtain ⟨gz, hgz⟩ : ∃ gz, v0.heap.size = gz := ⟨_, rfl⟩
  generalize hWz : World.alloc v0 _ = v1
  have hZ : Blk v1 gz 64 #[.int .i64 0, .int .i64 0] := by rw [← hWz]; exact Blk.new hgz rfl
  have hUz : Up v0 v1 := by rw [← hWz]; exact (Up.refl _).alloc _
  have hgu : w.heap.size ≤ gz := by omega
  have hogz : o ≠ gz := by have := cell_lt hS.1.1; omega
  have hgbz : b ≠ gz := by have := hS.2.lt; omega
  try rw [hgz]
  have hS1 : GrpAt v1 o P Q G ∧ Blk v1 b 64 #[.int .i64 C, .int .i64 S] := ⟨hS.1.up hUz, hS.2.up hUz⟩
  have hU1 := hU.trans hUz
  refine hK.out _ _ (.inr hS1) ?_
  clear hK
  try simp only [Act.put, List.setIfInBounds_toArray, List.set_cons_zero, List.set_cons_succ]
  refine anyE_one (i := 24) rfl (by kernel_rfl) rfl (fun K hK => ?_)
  refine op_store_row 64 _ _ rfl rfl gz #[.int .i64 ca, .int .i64 sa] rfl rfl 64 #[.int .i64 0, .int .i64 0] hZ (sizeSig _ _) rfl (by first | kernel_rfl | simp [Value.oneCell']) ?_
  have hUf := hUz.setRow (show v0.heap.size ≤ gz by omega) #[.int .i64 ca, .int .i64 sa]
  refine hK.out _ _ (.inr ⟨hS.1.up hUf, hS.2.up hUf⟩) (anyE_done (by kernel_rfl) ?_ _)
  have HA10 := hid (hS.1.up hUf)
  have HZ10 := hid (hZ.row #[.int .i64 ca, .int .i64 sa])
  have HY10 := hid (hY.up hUf)
  have HU10 := hid (hU.trans hUf)
  clear hK hUf hU hY hS hS1 hU1 hUz hZ hWz hgu
  generalize World.setRow _ _ _ = w10 at *
  try simp only [Act.put, List.setIfInBounds_toArray, List.set_cons_zero, List.set_cons_succ]
  obtain ⟨c0, c1, c2⟩ := HA10.out
  have z0 := HZ10.out.val (i := 0) rfl
  have z1 := HZ10.out.val (i := 1) rfl
  have hfe : frgE P Q G y ca sa = 0 := by rw [frgE, Hg.out, Hy.out, Xc, Xs]; rfl
  have hfv := frgV_el (c := ca) (s := sa) Hg.out Hy.out
  have M7n := hid (fun w' hU => M7.out w' hU y ca sa)
  rw [hfe] at M7n
  have M8n := hid (fun w' hU v hv => M8.out w' hU v (frgV P Q G y ca sa) y m' hv HM9.out)
  have hse : sigE P Q G (frgV P Q G y ca sa) y m'.length = 0 := by
    have hk : chkI P Q G [frgV P Q G y ca sa, y] = 0 := chkI_ok Hg.out (by simp [hfv, Hy.out])
    rw [sigE, if_pos hk, if_pos (by have := HN9.out; omega)]
  rw [hse] at M8n
  have M9n := hid (fun w' hU v hv => M5.out w' hU v y ca sa m' hv HM9.out)
  have HVe : Hid (verS P Q G y m' ca sa = decide (sigC P Q G (frgV P Q G y ca sa) y m' = ca)) := hid (by rw [verS, hfe, show decide (m'.length ≤ 16384) = true by have := HN9.out; simp; omega]; rfl)
  generalize frgV P Q G y ca sa = r' at *
  generalize verS P Q G y m' ca sa = vr at *
  generalize sigC P Q G r' y m' = k' at *
  clear M7 M8 M5 hfe hfv hse
  go_wp2_with fail
  refine (M7n.out _ (HU10.out)).mono ?_
  rintro e w11 ⟨rfl, hU11⟩
  have HA11 := hid (HA10.out.up hU11)
  have HZ11 := hid (HZ10.out.up hU11)
  have HY11 := hid (HY10.out.up hU11)
  have HU11 := hid (HU10.out.trans hU11)
  clear hU11 HA10 HZ10 HY10 HU10 c0 c1 c2 z0 z1
  obtain ⟨c0, c1, c2⟩ := HA11.out
  have z0 := HZ11.out.val (i := 0) rfl
  have z1 := HZ11.out.val (i := 1) rfl
  go_wp2_with fail
  refine (M8n.out _ (HU11.out) _ HY11.out).mono ?_
  rintro e w12 ⟨rfl, hU12⟩
  have HA12 := hid (HA11.out.up hU12)
  have HZ12 := hid (HZ11.out.up hU12)
  have HY12 := hid (HY11.out.up hU12)
  have HU12 := hid (HU11.out.trans hU12)
  clear hU12 HA11 HZ11 HY11 HU11 c0 c1 c2 z0 z1
  obtain ⟨c0, c1, c2⟩ := HA12.out
  have z0 := HZ12.out.val (i := 0) rfl
  have z1 := HZ12.out.val (i := 1) rfl
  have fc0 := cellF c0
  have fc1 := cellF c1
  have fc2 := cellF c2
  have fz0 := cellF z0
  have fz1 := cellF z1
  clear c0 c1 c2 z0 z1
  go_wp2_with fail
  refine wp_region_up (by kernel_rfl) (by kernel_rfl) ?_
  repeat (go_big_quiet_step ((first
      | (go_at_call 33; exact Calls.up_of (M9n.out _ (HU12.out.trans (UpFrom.up _)) _ (HY12.out.up (UpFrom.up _)))))))
  refine wpQuiet_nil ?_
  rintro w13 ⟨⟨_, hU13⟩, rfl⟩
  try dsimp only
  have HA13 := hid (HA12.out.up hU13)
  have HZ13 := hid (HZ12.out.up hU13)
  have HY13 := hid (HY12.out.up hU13)
  have HU13 := hid (HU12.out.trans hU13)
  clear hU13 HA12 HZ12 HY12 HU12 fc0 fc1 fc2 fz0 fz1
  obtain ⟨c0, c1, c2⟩ := HA13.out
  have z0 := HZ13.out.val (i := 0) rfl
  have z1 := HZ13.out.val (i := 1) rfl
  rw [HVe.out]
  go_wp2
  go_ret
  exact ⟨by show Ending.returned (Value.bool (decide (k' = ca) == decide (k' = ca))) = _; simp, HU13.out⟩
end Go.Proofs.YtdlcmpbpdbpanaaDoor
namespace Go.Proofs.YtdlcmpbpdbpanaaDoor.lawSignatureApart
open Go.Proofs.YtdlcmpbpdbpanaaDoor Go.ChangeShapes Go.WideShapes Go.ChangeAt Go.RowKit Go.Sp

set_option maxRecDepth 100000 in
theorem contract (H : Type) (enc : TypeId × Value → H) (W : World) (base : Nat) (args : Array Value) (ds gs : List (DataW H)) (before : List MemPlace)
    (hval : ∀ (j : Nat) t v, Tryd.f9.params[j]? = some t → args[j]? = some v → Value.okWide Tryd.prog W .any base t v)
    (hW : DataW.Whole enc Tryd.prog Tryd.f9.params.toList Rows.signatureApartSpec.vars false W args.toList ds gs before) (hL : laidMetH Tryd.prog Rows.signatureApartRow.laid W) :
    Calls Tryd.prog 9 args W fun e W' => ∃ v, e = .returned v ∧ Rows.signatureApartSpec.post enc Tryd.prog Tryd.f9 false true false false W args v W' := by
  have hT := tab_of_four hL
  have hS := tabS_of_four hL
  have hW' := hW
  obtain ⟨p, q, hA0, hV, rfl, hfz, hnd⟩ := hW
  have hA : DataW.TrodAll enc Tryd.prog W 0 (fun _ => true) true Tryd.f9.params.toList args.toList ds p := hA0
  rw [Tryd.params9] at hA hval
  obtain ⟨v0, vs0, d0, ds0, p0, q0, hargs, rfl, rfl, h0, r0⟩ := trodAll_cons hA
  obtain ⟨v1, vs1, d1, ds1, p1, q1, rfl, rfl, rfl, h1, r1⟩ := trodAll_cons r0
  obtain ⟨v2, vs2, d2, ds2, p2, q2, rfl, rfl, rfl, h2, r2⟩ := trodAll_cons r1
  obtain ⟨v3, vs3, d3, ds3, p3, q3, rfl, rfl, rfl, h3, r3⟩ := trodAll_cons r2
  obtain ⟨v4, vs4, d4, ds4, p4, q4, rfl, rfl, rfl, h4, r4⟩ := trodAll_cons r3
  obtain ⟨v5, vs5, d5, ds5, p5, q5, rfl, rfl, rfl, h5, r5⟩ := trodAll_cons r4
  obtain ⟨v6, vs6, d6, ds6, p6, q6, rfl, rfl, rfl, h6, r6⟩ := trodAll_cons r5
  obtain ⟨v7, vs7, d7, ds7, p7, q7, rfl, rfl, rfl, h7, r7⟩ := trodAll_cons r6
  obtain ⟨rfl, rfl, rfl⟩ := trodAll_nil r7
  obtain rfl : args = #[v0, v1, v2, v3, v4, v5, v6, v7] := by cases args; simp_all
  obtain ⟨rfl, rfl⟩ := trodVars_none hV
  obtain ⟨P0, Q0, G0, rfl, bP0, bQ0, bG0⟩ := open_grp (hval 0 52 v0 rfl rfl) h0
  obtain ⟨x1, rfl, bx1, by1⟩ := open_i64 (hval 1 3 v1 rfl rfl) h1
  obtain ⟨xs2, hs2, bs2⟩ := open_bytes (hval 2 31 v2 rfl rfl) h2
  obtain ⟨sd3, ct3, rfl, hd3, bc3, cc3⟩ := open_draw (hval 3 25 v3 rfl rfl) h3
  obtain ⟨x4, rfl, bx4, by4⟩ := open_u16 (hval 4 43 v4 rfl rfl) h4
  obtain ⟨x5, rfl, bx5, by5⟩ := open_u8 (hval 5 5 v5 rfl rfl) h5
  obtain ⟨x6, rfl, bx6, by6⟩ := open_u8 (hval 6 5 v6 rfl rfl) h6
  obtain ⟨x7, rfl, bx7, by7⟩ := open_u8 (hval 7 5 v7 rfl rfl) h7
  refine (SignatureApart_walk P0 Q0 G0 x1 ct3 sd3 v2 xs2 x4 x5 x6 x7 W bP0.1 bQ0.2 hT hS hd3 hs2 bs2 bx4 by4 bx6 by6 bx7 by7).mono fun e W' ⟨he, hU⟩ => ?_
  exact ⟨_, he, law_shut Tryd.underlying4 (by kernel_rfl) rfl rfl laidOut (by kernel_rfl) hW' hU⟩

theorem laid_met (os : Os) : laidMet Tryd.prog Rows.signatureApartRow.laid ((World.laidAll Tryd.prog os laidFour).forCall (fun _ _ => 0) ⟨#[], #[.agg #[.int .i64 0, .int .i64 0, .int .i64 0], .int .i64 0, .slice none 0 0, drw zeroH 0, .int .u16 0, .int .u8 0, .int .u8 0, .int .u8 0], []⟩).memory :=
  laidMet_laidAll _ (by kernel_rfl) (by kernel_rfl)
theorem reads (os : Os) {H : Type} (enc : TypeId × Value → H) : ∃ places, DataW.whole enc Tryd.prog ((World.laidAll Tryd.prog os laidFour).forCall (fun _ _ => 0) ⟨#[], #[.agg #[.int .i64 0, .int .i64 0, .int .i64 0], .int .i64 0, .slice none 0 0, drw zeroH 0, .int .u16 0, .int .u8 0, .int .u8 0, .int .u8 0], []⟩).memory Tryd.f9.params.toList Rows.signatureApartSpec.vars false (#[.agg #[.int .i64 0, .int .i64 0, .int .i64 0], .int .i64 0, .slice none 0 0, drw zeroH 0, .int .u16 0, .int .u8 0, .int .u8 0, .int .u8 0] : Array Value).toList 8 = some ([.agg [.lit (.int .i64 0), .lit (.int .i64 0), .lit (.int .i64 0)], .lit (.int .i64 0), .nil, .agg [.agg [.lit (.int .u8 0), .lit (.int .u8 0), .lit (.int .u8 0), .lit (.int .u8 0), .lit (.int .u8 0), .lit (.int .u8 0), .lit (.int .u8 0), .lit (.int .u8 0), .lit (.int .u8 0), .lit (.int .u8 0), .lit (.int .u8 0), .lit (.int .u8 0), .lit (.int .u8 0), .lit (.int .u8 0), .lit (.int .u8 0), .lit (.int .u8 0), .lit (.int .u8 0), .lit (.int .u8 0), .lit (.int .u8 0), .lit (.int .u8 0), .lit (.int .u8 0), .lit (.int .u8 0), .lit (.int .u8 0), .lit (.int .u8 0), .lit (.int .u8 0), .lit (.int .u8 0), .lit (.int .u8 0), .lit (.int .u8 0), .lit (.int .u8 0), .lit (.int .u8 0), .lit (.int .u8 0), .lit (.int .u8 0)], .lit (.int .i64 0)], .lit (.int .u16 0), .lit (.int .u8 0), .lit (.int .u8 0), .lit (.int .u8 0)], [], places) :=
  ⟨[], by kernel_rfl⟩

set_option maxRecDepth 100000 in
theorem lifted (os : Os) (started : os.Started) (H : Type) (enc : TypeId × Value → H) (F : Stop.Interp) :
    ReturnsInHanded {} Tryd.checked os 9 .any ((OpenSpec.ofChange Rows.signatureApartSpec).preRow enc Tryd.prog Tryd.f9 Rows.signatureApartRow.domain false Rows.signatureApartRow.laid) (((OpenSpec.ofChange Rows.signatureApartSpec).at F).post enc Tryd.prog Tryd.f9 false true false false) := by
  obtain ⟨places, hx⟩ := reads os enc
  refine returnsInHanded_of_row (C := Tryd.checked) (s := OpenSpec.ofChange Rows.signatureApartSpec) own started (by kernel_rfl) Tryd.func9
    (witness_row_at (enc := enc) (C := Tryd.checked) false (World.laidAll Tryd.prog os laidFour) #[.agg #[.int .i64 0, .int .i64 0, .int .i64 0], .int .i64 0, .slice none 0 0, drw zeroH 0, .int .u16 0, .int .u8 0, .int .u8 0, .int .u8 0] (World.laidAll_os _ _ _) (by kernel_rfl) (by kernel_rfl) (by kernel_rfl)
      (OpenSpec.preRow_of_cond 8 hx (by kernel_rfl) (fun k hk => by cases hk) (by kernel_rfl) (laid_met os))) ?_
  intro W base args ds gs before hval hW _ _ _ hL _ _
  exact contract H enc W base args ds gs before hval hW hL

theorem said : Rows.SignatureApartSaid :=
  OpenClaim.holds_of_cond 9 Tryd.f9 rfl rfl rfl rfl rfl rfl rfl ⟨rfl, rfl, rfl, rfl, rfl⟩ rfl rfl rfl rfl rfl (by kernel_rfl) Tryd.func9 (by kernel_rfl)
    (of_decide_eq_true (by kernel_rfl)) (by unfold Func.isWrapper; first | (rw [if_pos (by decide +kernel)]; kernel_rfl) | (rw [if_neg (by decide +kernel)]; exact ⟨rfl, rfl⟩))
    (fun os started H enc _ F => by rw [OpenClaim.pre_eq_preRow]; exact lifted os started H enc F)

theorem plain (f : FuncId) (fn : Func) (hf : Tryd.pinned.checked.prog.funcNamed "specie/specielaw22.SignatureApart" = some f) (hfn : Tryd.pinned.checked.prog.funcs[f]? = some fn) :
    false = Tryd.pinned.checked.prog.looks [] ∧ ∀ (j : Nat) t, fn.params[j]? = some t → Tryd.pinned.checked.prog.wantsStandIn t = false := by
  obtain rfl : f = 9 := Option.some.inj ((show Tryd.prog.funcNamed "specie/specielaw22.SignatureApart" = some 9 by kernel_rfl).symm.trans hf) |>.symm
  obtain rfl : fn = Tryd.f9 := (Option.some.inj (Tryd.func9.symm.trans hfn)).symm
  refine ⟨by kernel_rfl, fun j t ht => ?_⟩
  have hall : Tryd.f9.params.toList.all (fun t => !Tryd.prog.wantsStandIn t) = true := by kernel_rfl
  have := List.all_eq_true.1 hall t (by rw [← Array.mem_toList_iff.symm]; exact Array.mem_of_getElem? ht)
  exact (by simpa using this : Tryd.prog.wantsStandIn t = false)

/-- The card. -/
theorem card : Rows.SignatureApartCardSaid :=
  Claim7.holds_tied_plain_at .later [] _ _ _ _ said (fun _ h => by cases h) (by kernel_rfl) (fun _ h => by cases h) signatureApart_row_tie rfl ⟨rfl, rfl⟩ (by kernel_rfl) rfl plain (by kernel_rfl)
end Go.Proofs.YtdlcmpbpdbpanaaDoor.lawSignatureApart
