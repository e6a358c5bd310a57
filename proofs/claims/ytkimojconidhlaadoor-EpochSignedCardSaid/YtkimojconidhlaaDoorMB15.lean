/- Package draw: Nonzero. Package draw: New. Package draw: Bytes. Package transcript: New, Absorb, Ints, Challenge. Package transcript: lists of integers; challenges. -/
import Derived.Test.YtkimojconidhlaaDoorMB14
namespace Go.Proofs.YtkimojconidhlaaDoor
open Go.RowKit Go.Sp
set_option maxHeartbeats 2000000
set_option maxRecDepth 20000

theorem numT_range {h : Nat → Int} {q : Int} : ∀ (n : Nat) (c x : Int), 0 ≤ c → c ≤ 1099511627776 → c ≤ (numT h q n c x).2.1 ∧ (numT h q n c x).2.1 ≤ 1099511627776
  | 0, c, x, h0, h1 => ⟨Int.le_refl _, h1⟩
  | n + 1, c, x, h0, h1 => by
    by_cases hc : c = 1099511627776
    · rw [numT, if_pos hc]; exact ⟨Int.le_refl _, h1⟩
    · rw [numT, if_neg hc]
      split
      · exact ⟨by simp; omega, by simp; omega⟩
      · have := numT_range (h := h) (q := q) n (c + 1) (firK (shaB (posL h c)) 8 % 2 ^ maskN q) (by omega) (by omega)
        omega

/-- A number other than 0: the number, the counter, and whether there was no block. -/
def nzT (h : Nat → Int) (q : Int) : Nat → Int → Int × Int × Bool
  | 0, c => (1, c, false)
  | n + 1, c => if (numT h q 256 c 0).2.2 = true then (0, c, true) else if (numT h q 256 c 0).1 ≠ 0 then ((numT h q 256 c 0).1, (numT h q 256 c 0).2.1, false) else nzT h q n (numT h q 256 c 0).2.1

/-- What Nonzero returns. -/
def nznV (h : Nat → Int) (c q : Int) : Value :=
  if chkE c q 2 2305843009213693951 = 0 then .tuple #[bif (nzT h q 256 c).2.2 then drw zeroH 0 else drw h (nzT h q 256 c).2.1, .int .i64 (nzT h q 256 c).1, .int .i64 (bif (nzT h q 256 c).2.2 then 5 else 0)]
  else .tuple #[drw zeroH 0, .int .i64 0, .int .i64 (chkE c q 2 2305843009213693951)]

theorem nzT_full {h : Nat → Int} {q : Int} {n : Nat} {c : Int} (hf : (numT h q 256 c 0).2.2 = true) : nzT h q (n + 1) c = (0, c, true) := by rw [nzT, if_pos hf]
theorem nzT_num {h : Nat → Int} {q : Int} {n : Nat} {c : Int} (hf : (numT h q 256 c 0).2.2 = false) (h1 : (numT h q 256 c 0).1 ≠ 0) : nzT h q (n + 1) c = ((numT h q 256 c 0).1, (numT h q 256 c 0).2.1, false) := by
  rw [nzT, if_neg (by simp [hf]), if_pos h1]
theorem nzT_next {h : Nat → Int} {q : Int} {n : Nat} {c : Int} (hf : (numT h q 256 c 0).2.2 = false) (h1 : (numT h q 256 c 0).1 = 0) : nzT h q (n + 1) c = nzT h q n (numT h q 256 c 0).2.1 := by
  rw [nzT, if_neg (by simp [hf]), if_neg (by simp [h1])]

theorem Nonzero_any (h : Nat → Int) (c q : Int) (w : World) (hT : TabS w) (hB : Byt h) :
    Calls Tryd.prog 35 #[drw h c, .int .i64 q] w fun e w' => e = .returned (nznV h c q) ∧ Up w w' := by
  have HT := hid hT
  have HB := hid hB
  obtain ⟨E, hE⟩ : ∃ E, chkE c q 2 2305843009213693951 = E := ⟨_, rfl⟩
  have HE := hid hE
  obtain ⟨V, hV⟩ : ∃ V, nznV h c q = V := ⟨_, rfl⟩
  have HV := hid hV
  rw [hV]
  clear hT hB hV
  have HC := hid (fun w' => check_draw_any h c q 2 2305843009213693951 w')
  rw [hE] at HC
  clear hE
  unfold drw at HC ⊢
  go_enter Tryd.func35, Tryd.ntmps35
  have hB0 := Blk.new (w := w) (t := 30) (cs := drwA h c) rfl rfl
  have hB1 := Blk.new (w := w.alloc (.cells (drwA h c) 30)) (t := 30) (g := w.heap.size + 1) (by simp) zero33
  go_wp2_with (refine wpList_load_row rfl 30 _ rfl w.heap.size rfl 30 (drwA h c) (0, 0) _ (hB0.alloc _) Tryd.underlying30 rfl (sizeDrw _ _) ?_)
  refine (HC.out _).mono ?_
  rintro e w1 ⟨rfl, hU1⟩
  have HB0 := hid ((hB0.alloc _).up hU1)
  have HB1 := hid (hB1.up hU1)
  have HU1 := hid ((((Up.refl w).alloc _).alloc _).trans hU1)
  clear hU1 hB0 hB1 HC
  obtain ⟨o, ho⟩ : ∃ o, w.heap.size + 1 = o := ⟨_, rfl⟩
  have HOo := hid ho
  clear ho
  by_cases h0 : E = 0
  case neg =>
    have d1 : (E != 0) = true := by simpa using h0
    have HVr : Hid (V = .tuple #[drw zeroH 0, .int .i64 0, .int .i64 E]) := hid (by rw [← HV.out, nznV, HE.out, if_neg h0])
    clear h0
    rw [HOo.out] at HB1
    rw [HOo.out]
    go_wp2_with (refine wpList_store_rowTo rfl 30 _ _ rfl rfl o (drwA zeroH 0) ?_ ?_ 30 (drwA zeroH 0) ?_ ?_ ?_ ?_ ?_)
    · rfl
    · exact (congrArg Value.agg zero33)
    · exact HB1.out
    · exact sizeDrw _ _
    · rfl
    · exact drwA_one _ _
    refine bodyPost_ret (v := .tuple #[.agg (drwA zeroH 0), .int .i64 0, .int .i64 E]) (results_row_tmp2 Tryd.results35 _ _ o 30 _ (0, 0) _ (by rfl) (HB1.out.row _) Tryd.underlying30 rfl (sizeDrw _ _)) rfl ⟨by rw [HVr.out]; rfl, HU1.out.setRow (by have := HOo.out; omega) _⟩
  have hk := chk_iff.1 (HE.out.trans h0)
  have HK := hid hk
  obtain ⟨R, hR⟩ : ∃ R, nzT h q 256 c = R := ⟨_, rfl⟩
  have HR := hid hR
  have HVr : Hid (V = .tuple #[bif R.2.2 then drw zeroH 0 else drw h R.2.1, .int .i64 R.1, .int .i64 (bif R.2.2 then 5 else 0)]) := hid (by rw [← HV.out, nznV, if_pos (HE.out.trans h0), hR])
  subst h0
  clear hk HE HV hR
  go_wp2_with (first
    | (refine wpList_load_row rfl 30 _ rfl w.heap.size rfl 30 (drwA h c) (0, 0) _ HB0.out Tryd.underlying30 rfl (sizeDrw _ _) ?_)
    | (refine wpList_buildTo rfl 120 _ rfl _ rfl (srcA h c false) (by kernel_rfl) ?_))
  have ho := HOo.out
  have l1 := HB1.out.lt
  have HS2 : Hid (Blk (w1.alloc (.cells (srcA h c false) 120)) w1.heap.size 120 (srcA h c false)) := hid (Blk.new rfl rfl)
  have HZ2 := hid (HB1.out.alloc (.cells (srcA h c false) 120))
  have HU2 := hid (HU1.out.alloc (.cells (srcA h c false) 120))
  have HT2 := hid (HT.out.up HU2.out)
  obtain ⟨b, hb⟩ : ∃ b, w1.heap.size = b := ⟨_, rfl⟩
  obtain ⟨w2, hw2⟩ : ∃ w2, w1.alloc (.cells (srcA h c false) 120) = w2 := ⟨_, rfl⟩
  rw [hb, hw2] at HS2
  rw [ho, hw2] at HZ2
  rw [hw2] at HU2 HT2
  have hob : o < b := by rw [← ho, ← hb]; exact l1
  have hwo : w.heap.size ≤ o := by omega
  have HC2 : Hid (0 ≤ c ∧ c ≤ 1099511627776) := hid HK.out.1
  rw [ho, hb, hw2]
  obtain ⟨o0, ho0⟩ : ∃ o0, w.heap.size = o0 := ⟨_, rfl⟩
  rw [ho0]
  have HO0 := hid ho0
  clear ho hb hw2 l1 HB0 HB1 HU1 HOo ho0
  go_loopw [20] (fun vi wr => ∃ (i : Nat) (d : Int), i ≤ 256 ∧ vi = .int .i64 i ∧ Hid (nzT h q (256 - i) d = R) ∧ Hid (0 ≤ d ∧ d ≤ 1099511627776) ∧ Hid (Blk wr b 120 (srcA h d false)) ∧ Hid (Blk wr o 30 (drwA zeroH 0)) ∧ Hid (Up w wr) ∧ Hid (TabS wr)) (fun vi _ => 256 - (intOf vi).toNat)
  case atStart => exact ⟨0, c, by omega, rfl, HR, HC2, HS2, HZ2, HU2, HT2⟩
  case round =>
    clear HS2 HZ2 HU2 HT2 HC2 HR
    obtain ⟨i, d, hi, rfl, HRi, HD, HS, HZ, HU, HTr⟩ := hrel
    by_cases hlt : i < 256
    · obtain ⟨n, hn⟩ : ∃ n, 256 - i = n + 1 := ⟨255 - i, by omega⟩
      have Hn := hid hn
      rw [hn] at HRi
      clear hn
      go_wp2_with fail
      refine (number_any h d false q b _ HTr.out HB.out HS.out HD.out.1 HD.out.2 (fun h => by cases h) (by have := HK.out.2.1; omega) HK.out.2.2).mono ?_
      rintro e w3 ⟨rfl, hS3, hg3⟩
      have HZ3 := hid (Blk.grownOut HZ.out hg3 (by omega))
      have HU3 := hid (Up.grownNew HU.out hg3 (by omega))
      have HT3 := hid (HTr.out.grown HS.out hg3)
      have HS3 := hid hS3
      obtain ⟨r0, r1⟩ := numT_range (h := h) (q := q) 256 d 0 HD.out.1 HD.out.2
      have HD3 : Hid (0 ≤ (numT h q 256 d 0).2.1 ∧ (numT h q 256 d 0).2.1 ≤ 1099511627776) := hid ⟨by have := HD.out.1; omega, r1⟩
      have P1 := hid (fun hf => nzT_full (h := h) (q := q) (n := n) (c := d) hf)
      have P2 := hid (fun hf h1 => nzT_num (h := h) (q := q) (n := n) (c := d) hf h1)
      have P3 := hid (fun hf h1 => nzT_next (h := h) (q := q) (n := n) (c := d) hf h1)
      rw [HRi.out] at P1 P2 P3
      clear hS3 hg3 HZ HU HTr HS r0 r1 HRi
      generalize (numT h q 256 d 0).1 = v at *
      generalize (numT h q 256 d 0).2.1 = c3 at *
      generalize (numT h q 256 d 0).2.2 = F at *
      have f0 := HS3.out.val (srcA_full h c3 F)
      have l0 := HS3.out.lt
      cases F with
      | true =>
        have hr : R = (0, d, true) := P1.out rfl
        subst hr
        clear P1 P2 P3
        go_wp2_with (refine wpList_store_rowTo rfl 30 _ _ rfl rfl o (drwA zeroH 0) ?_ ?_ 30 (drwA zeroH 0) ?_ ?_ ?_ ?_ ?_)
        · rfl
        · exact (congrArg Value.agg zero33)
        · exact HZ3.out
        · exact sizeDrw _ _
        · rfl
        · exact drwA_one _ _
        refine bodyPost_ret (v := .tuple #[.agg (drwA zeroH 0), .int .i64 0, .int .i64 5]) (results_row_tmp2 Tryd.results35 _ _ o 30 _ (0, 0) _ (by rfl) (HZ3.out.row _) Tryd.underlying30 rfl (sizeDrw _ _)) rfl ⟨by rw [HVr.out]; rfl, HU3.out.setRow (by have := HO0.out; omega) _⟩
      | false =>
        have hsd : (Tryd.prog.info? 30).map (·.size) = some (drwA h c3).toList.length := by rw [Array.length_toList]; exact sizeDrw h c3
        have Hsd := hid hsd
        clear hsd P1
        by_cases hv : v = 0
        · have d1 : (v != 0) = false := by simpa using hv
          have HRn : Hid (nzT h q (256 - (i + 1)) c3 = R) := hid (by rw [P3.out rfl hv, show 256 - (i + 1) = n by have := Hn.out; omega])
          clear hv P2 P3
          go_wp2_with fail
          go_roundw
          case rel => exact ⟨i + 1, c3, by omega, by go_num, HRn, HD3, HS3, HZ3, HU3, HT3⟩
          case measure => simp [intOf]; omega
        · have d1 : (v != 0) = true := by simpa using hv
          have hr : R = (v, c3, false) := P2.out rfl hv
          subst hr
          clear hv P2 P3
          go_wp2_with (first
            | (refine wpList_load_mid rfl 30 _ rfl b 0 rfl (drwA h c3).toList _ (src_drw HS3.out) Tryd.underlying30 rfl Hsd.out ?_; rw [Array.toArray_toList])
            | (refine wpList_store_rowTo rfl 30 _ _ rfl rfl o (drwA h c3) rfl rfl 30 (drwA zeroH 0) HZ3.out (sizeDrw _ _) (by rw [drwA_size, drwA_size]) (drwA_one _ _) ?_))
          refine bodyPost_ret (v := .tuple #[.agg (drwA h c3), .int .i64 v, .int .i64 0]) (results_row_tmp2 Tryd.results35 _ _ o 30 _ (0, 0) _ (by rfl) (HZ3.out.row _) Tryd.underlying30 rfl (sizeDrw _ _)) rfl ⟨by rw [HVr.out]; rfl, HU3.out.setRow (by have := HO0.out; omega) _⟩
    · obtain rfl : i = 256 := by omega
      have hr : R = (1, d, false) := HRi.out.symm
      subst hr
      have hsd : (Tryd.prog.info? 30).map (·.size) = some (drwA h d).toList.length := by rw [Array.length_toList]; exact sizeDrw h d
      have Hsd := hid hsd
      have l0 := HS.out.lt
      clear hsd
      go_wp2_with (first
        | (refine wpList_load_mid rfl 30 _ rfl b 0 rfl (drwA h d).toList _ (src_drw HS.out) Tryd.underlying30 rfl Hsd.out ?_; rw [Array.toArray_toList])
        | (refine wpList_store_rowTo rfl 30 _ _ rfl rfl o (drwA h d) rfl rfl 30 (drwA zeroH 0) HZ.out (sizeDrw _ _) (by rw [drwA_size, drwA_size]) (drwA_one _ _) ?_))
      refine bodyPost_ret (v := .tuple #[.agg (drwA h d), .int .i64 1, .int .i64 0]) (results_row_tmp2 Tryd.results35 _ _ o 30 _ (0, 0) _ (by rfl) (HZ.out.row _) Tryd.underlying30 rfl (sizeDrw _ _)) rfl ⟨by rw [HVr.out]; rfl, HU.out.setRow (by have := HO0.out; omega) _⟩
end Go.Proofs.YtkimojconidhlaaDoor
namespace Go.Proofs.YtkimojconidhlaaDoor
open Go.RowKit Go.Sp
set_option maxHeartbeats 2000000
set_option maxRecDepth 20000

/-- The text ahead of a source's seed. -/
def drawTag : ByteArray := { data := #[115, 112, 101, 99, 105, 101, 47, 100, 114, 97, 119] }

/-- What New returns. -/
def newV (xs : List Int) : Value := if xs.length ≤ 16384 then .tuple #[drw (tagB (txt drawTag) xs) 0, .int .i64 0] else .tuple #[drw zeroH 0, .int .i64 5]

end Go.Proofs.YtkimojconidhlaaDoor
namespace Go.Proofs.YtkimojconidhlaaDoor
open Go.RowKit Go.Sp
set_option maxHeartbeats 2000000
set_option maxRecDepth 20000

/-- The bytes of k blocks. -/
def catL (h : Nat → Int) (c : Int) : Nat → List Int
  | 0 => []
  | k + 1 => catL h c k ++ hList (shaB (posL h (c + k)))
theorem catL_length (h : Nat → Int) (c : Int) : ∀ k, (catL h c k).length = 32 * k
  | 0 => rfl
  | k + 1 => by rw [catL, List.length_append, catL_length h c k, hList_length]; omega

/-- How many blocks serve for n bytes. -/
def needB (n : Int) : Int := (n + 31) / 32
/-- The error of Bytes. -/
def bytE (c n : Int) : Int := if chkE c n 0 16384 = 0 then (if c + needB n ≤ 1099511627776 then 0 else 5) else chkE c n 0 16384
/-- The bytes that Bytes returns, and the source. -/
def bytL (h : Nat → Int) (c n : Int) : List Int := if bytE c n = 0 then (catL h c (needB n).toNat).take n.toNat else []
def bytD (h : Nat → Int) (c n : Int) : Value := if bytE c n = 0 then drw h (c + needB n) else drw zeroH 0

theorem own_grown {e : TypeId} {k : IntKind} {w w' : World} {base b : Nat} {v : Value} {xs : List Int} (h : OwnS e k w base v xs) (hg : w.grownBy w' (some b)) (hb : b < base) : OwnS e k w' base v xs := by
  refine ⟨h.1, ?_⟩
  rcases h.2 with h2 | ⟨g, cap, cur, h1, h2, h3, h4⟩
  · exact .inl h2
  · exact .inr ⟨g, cap, cur, h1, h2, by rw [hg.block g (Array.getElem?_eq_some_iff.1 h3).1 (by simp; omega)]; exact h3, h4⟩

theorem step_load_row {P : Program} {ops : Array Oper} {o : Oper} {a : Act} {w : World} {K : Act → World → Prop} {Q : Exit → Act → World → Prop} {E : Prop} (hgd : o.guard = none) (ty : TypeId) (x : Operand) (ho : o.op = .load ty x)
    (g : Nat) (hx : a.eval x = .pointer (some ⟨g, 0, none⟩)) (t : TypeId) (cs : Array Value) (fr : Nat × Nat) (d : TypeDesc) (hg : w.heap[g]? = some (.cells cs t fr))
    (hu : P.underlying ty = some d) (hd : (match d with | .struct _ | .array _ _ => true | _ => false) = true) (hi : (P.info? ty).map (·.size) = some cs.size)
    (h : K (a.put o.dst (.agg cs)) w) : if Region.wanted o (yielded ops a.tmps) = true then Oper.wp P o a w K Q else E := by
  have hw : Region.wanted o (yielded ops a.tmps) = true := by simp [Region.wanted, hgd]
  rw [if_pos hw]
  exact wp_load_row ty x ho g hx t cs fr d hg hu hd hi h

theorem grown_own (w : World) (o : Nat) (cs : Array Value) : w.grownBy (w.setRow o cs) (some o) := by
  have hz := below_setRow ((Up.refl w).below.mono (Nat.zero_le _)) (B := 0) (g := o) (Nat.zero_le _) cs
  exact ⟨hz.os, hz.tape, hz.output, hz.size, fun k _ hr => setRow_other w o k cs (fun e => hr (by rw [e]))⟩

theorem seq_cut {k : IntKind} {w : World} {a : Option Addr} {n cap m : Nat} {xs : List Int} (h : SeqAt k w (.slice a n cap) xs) (h2 : m ≤ n) : SeqAt k w (.slice a m m) (xs.take m) := by
  have hf := h.front h2
  obtain ⟨a', cap', hv, h3, h4, h5, hc⟩ := hf
  simp only [Value.slice.injEq] at hv
  obtain ⟨rfl, hm, rfl⟩ := hv
  refine ⟨a, m, by rw [← hm], by omega, by omega, fun e => ?_, hc⟩
  have := h5 e
  omega

theorem blk_range {w : World} {b : Nat} {t : TypeId} {cs : Array Value} (hb : Blk w b t cs) : w.rangeAt b 0 cs.toList := fun j v hv => by
  rw [Nat.zero_add, hb.read, ← hv, Array.getElem?_toList]

theorem op_store_row {P : Program} {o : Oper} {a : Act} {w : World} {K : Act → World → Prop} {Q : Exit → Act → World → Prop} (ty : TypeId) (x y : Operand) (ho : o.op = .store ty x y) (hd : o.dst = none)
    (g : Nat) (cells : Array Value) (hx : a.eval x = .pointer (some ⟨g, 0, none⟩)) (hy : a.eval y = .agg cells)
    (t : TypeId) (old : Array Value) (hg : w.heap[g]? = some (.cells old t (0, 0))) (hi : (P.info? ty).map (·.size) = some cells.size)
    (hold : old.size = cells.size) (h1 : cells.all (·.oneCell') = true)
    (h : K a (w.setRow g cells)) : o.wp P a w K Q := wp_store_row ty x y ho g cells hx hy t old hg hi hold h1 (by rw [hd]; exact h)

def BytOut (h : Nat → Int) (c n : Int) (w : World) (e : Ending) (w' : World) : Prop :=
  ∃ v, e = .returned (.tuple #[bytD h c n, v, .int .i64 (bytE c n)]) ∧ SeqAt .u8 w' v (bytL h c n) ∧ Up w w'

end Go.Proofs.YtkimojconidhlaaDoor
namespace Go.Proofs.YtkimojconidhlaaDoor
open Go.RowKit Go.Sp
set_option maxHeartbeats 4000000
set_option maxRecDepth 20000

theorem sizeTr (h : Nat → Int) (c : Int) : (Tryd.prog.info? 108).map (·.size) = some (drwA h c).size := by rw [drwA_size]; kernel_rfl
def trTag : ByteArray := { data := #[115, 112, 101, 99, 105, 101, 47, 116, 114, 97, 110, 115, 99, 114, 105, 112, 116] }
theorem trTag_txt : txt trTag = tagTr := by decide
def absTag : ByteArray := { data := #[115, 112, 101, 99, 105, 101, 47, 97, 98, 115, 111, 114, 98] }
theorem absTag_txt : txt absTag = tagAbsorb := by decide
def chTag : ByteArray := { data := #[115, 112, 101, 99, 105, 101, 47, 99, 104, 97, 108, 108, 101, 110, 103, 101] }
theorem chTag_txt : txt chTag = tagChal := by decide

theorem tNew_ok (s : ByteArray) (w : World) (hT : TabS w) (hs : Lab s) :
    Calls Tryd.prog 54 #[.string s] w fun e w' => e = .returned (.tuple #[drw (trNew (txt s)) 0, .int .i64 0]) ∧ Up w w' := by
  have HTg := hid (fun w' (v' : Value) (hU : Up w w') (hv' : SeqAt .u8 w' v' (txt s)) => Tagged_any trTag v' (txt s) w' (hT.up hU) (by decide) (by decide) hv' (by rw [txt_length]; have := hs.max; omega) (txt_byt s))
  rw [trTag_txt] at HTg
  have HV : Hid (trNew (txt s) = tagB tagTr (txt s)) := hid rfl
  have M1 := hid (fun w' => tvalid_ok s w' hs)
  generalize trNew (txt s) = H at *
  rw [← HV.out] at HTg
  have d2 : s.size ≤ 24 := hs.max
  have hcv := fun w' => run_bytes_of_string (P := Tryd.prog) w' 9 50 5 s Tryd.underlying9 Tryd.underlying50 Tryd.underlying5
  clear hT hs HV
  obtain ⟨o, ho⟩ : ∃ o, w.heap.size = o := ⟨_, rfl⟩
  have HO := hid ho
  clear ho
  go_enter Tryd.func54, Tryd.ntmps54
  have hZ := Blk.new (w := w) (t := 108) (g := o) HO.out zero33
  have HZ := hid hZ
  clear hZ
  go_wp2_with fail
  refine (M1.out _).mono ?_
  rintro e w1 ⟨rfl, hU1⟩
  have HZ1 := hid (HZ.out.up hU1)
  have HU1 := hid (((Up.refl w).alloc _).trans hU1)
  rw [HO.out]
  clear hU1 HZ
  go_wp2_with fail
  refine (HTg.out _ _ ((HU1.out.alloc _).drew) (seq_text_at s _ _ _ rfl cap_ge (cap_le (by omega)))).mono ?_
  rintro e w2 ⟨rfl, hU2⟩
  have HZ2 := hid (((HZ1.out.alloc _).up (Up.refl _).drew).up hU2)
  have HU2 := hid (((HU1.out.alloc _).drew).trans hU2)
  clear hU2 HZ1 HU1 hcv
  have l0 := HZ2.out.lt
  unfold hashV
  go_wp2_with (first
    | (refine wpList_store_rowTo rfl 28 _ _ rfl rfl _ _ rfl rfl 28 _ (heap_alloc_new _ _) (by rw [arrK_size]; kernel_rfl) (by rw [arrK_size]; rfl) arrK_one ?_; rw [World.setRow_alloc_new])
    | (refine wpList_load_row rfl 28 _ rfl w2.heap.size rfl 28 (arrK .u8 H 32) (0, 0) _ (Blk.new rfl rfl) Tryd.underlying28 rfl (by rw [arrK_size]; kernel_rfl) ?_)
    | (refine wpList_buildTo rfl 108 _ rfl _ rfl (drwA H 0) (by kernel_rfl) ?_)
    | (refine wpList_store_rowTo rfl 108 _ _ rfl rfl o (drwA H 0) rfl rfl 108 (drwA zeroH 0) (HZ2.out.alloc _) (sizeTr _ _) (by rw [drwA_size, drwA_size]) (drwA_one _ _) ?_))
  refine bodyPost_ret (v := .tuple #[.agg (drwA H 0), .int .i64 0]) (results_row_tmp Tryd.results54 _ _ o 108 _ (0, 0) _ (by rfl) ((HZ2.out.alloc _).row _) Tryd.underlying108 rfl (sizeTr _ _)) rfl ⟨rfl, (HU2.out.alloc _).setRow (by have := HO.out; omega) _⟩

theorem tAbsorb_ok (h : Nat → Int) (c : Int) (s : ByteArray) (k n : Int) (b l : Value) (es : List Int) (w : World) (hT : TabS w) (hB : Byt h) (c0 : 0 ≤ c) (c1 : c < 1000) (hs : Lab s) (hq : ItmAt w 6 k n b l es) (hl : es.length ≤ 16000) (hes : ∀ x ∈ es, 0 ≤ x ∧ x ≤ 255) :
    Calls Tryd.prog 77 #[drw h c, .string s, itm k n b l] w fun e w' => e = .returned (.tuple #[drw (absB h (txt s) es) (c + 1), .int .i64 0]) ∧ Up w w' := by
  have HV : Hid (absB h (txt s) es = tagB (txt absTag) (frameE h (txt s) [es])) := hid (by rw [absTag_txt]; rfl)
  have M1 := hid (fun w' => tValid_ok h c w' c0 (by omega))
  have M2 := hid (fun w' => tvalid_ok s w' hs)
  have M3 := hid (fun w' (g0 : Nat) (hU : Up w w') (hc : ItmCells w' g0 0 k n b l) => thash_one absTag h c s g0 ⟨k, n, b, l⟩ es w' (hT.up hU) hB (by decide) (by decide) hs hc (hq.up hU) hl hes)
  rw [← HV.out] at M3
  generalize absB h (txt s) es = H at *
  obtain ⟨⟨ba, bn, bc, rfl⟩, la, ln, lc, rfl⟩ := itm_shape hq
  have hctr := drwA_ctr h c
  have HCt := hid hctr
  have HSz := hid (sizeTr h c)
  unfold drw at M1 M3 ⊢
  generalize drwA h c = cs at *
  have dc : (c == 1000) = false := by simp; omega
  have hwr : IntKind.i64.wrap (c + 1) = c + 1 := IntWalk.i64_in _ (by omega)
  clear hT hB hs hq hl hes HV hctr
  obtain ⟨o, ho⟩ : ∃ o, w.heap.size = o := ⟨_, rfl⟩
  have HO := hid ho
  obtain ⟨o1, ho1⟩ : ∃ o1, o + 1 = o1 := ⟨_, rfl⟩
  have HO1 := hid ho1
  obtain ⟨o2, ho2⟩ : ∃ o2, o1 + 1 = o2 := ⟨_, rfl⟩
  have HO2 := hid ho2
  clear ho ho1 ho2
  go_enter Tryd.func77, Tryd.ntmps77
  have hB0 := Blk.new (w := w) (t := 108) (cs := cs) (g := w.heap.size) rfl rfl
  go_wp2_with (refine wpList_load_row rfl 108 _ rfl w.heap.size rfl 108 cs (0, 0) _ ((hB0.alloc _).alloc _) Tryd.underlying108 rfl HSz.out ?_)
  refine (M1.out _).mono ?_
  rintro e w1 ⟨rfl, hU1⟩
  have HS1 := hid (((Blk.new (w := w) (t := 108) (cs := cs) (g := o) HO.out rfl).up (((Up.refl _).alloc _).alloc _)).up hU1)
  have HI1 := hid (((Blk.new (g := o1) (t := 53) (by have := HO.out; have := HO1.out; simp; omega) rfl).up ((Up.refl _).alloc _)).up hU1)
  have HZ1 : Hid (Blk w1 o2 108 (drwA zeroH 0)) := hid ((Blk.new (g := o2) (t := 108) (by have := HO.out; have := HO1.out; have := HO2.out; simp; omega) zero33).up hU1)
  have HU1 := hid (((((Up.refl w).alloc _).alloc _).alloc _).trans hU1)
  rw [HO.out, HO1.out, HO2.out]
  clear hU1 hB0
  go_wp2_with fail
  refine (M2.out _).mono ?_
  rintro e w2 ⟨rfl, hU2⟩
  have HS2 := hid (HS1.out.up hU2)
  have HI2 := hid (HI1.out.up hU2)
  have HZ2 := hid (HZ1.out.up hU2)
  have HU2 := hid (HU1.out.trans hU2)
  clear hU2 HS1 HI1 HZ1 HU1
  have i0 := HI2.out.val (i := 0) rfl
  have i1 := HI2.out.val (i := 1) rfl
  have i2 := HI2.out.val (i := 2) rfl
  have i3 := HI2.out.val (i := 3) rfl
  go_wp2_with (refine wpList_load_row rfl 108 _ rfl o rfl 108 cs (0, 0) _ HS2.out Tryd.underlying108 rfl HSz.out ?_)
  refine (M3.out _ w2.heap.size (HU2.out.alloc _) (itm_new rfl)).mono ?_
  rintro e w3 ⟨rfl, hU3⟩
  have hU3 := ((Up.refl w2).alloc _).trans hU3
  have HS3 := hid (HS2.out.up hU3)
  have HZ3 := hid (HZ2.out.up hU3)
  have HU3 := hid (HU2.out.trans hU3)
  clear hU3 HS2 HI2 HZ2 HU2 i0 i1 i2 i3
  have q32 : w3.cell? ⟨o, 32, none⟩ = some (.int .i64 c) := HS3.out.val HCt.out
  have l0 := HS3.out.lt
  have l1 := HZ3.out.lt
  unfold hashV
  go_wp2_with (first
    | (refine wpList_store_rowTo rfl 28 _ _ rfl rfl _ _ rfl rfl 28 _ (heap_alloc_new _ _) (by rw [arrK_size]; kernel_rfl) (by rw [arrK_size]; rfl) arrK_one ?_; rw [World.setRow_alloc_new])
    | (refine wpList_load_row rfl 28 _ rfl w3.heap.size rfl 28 (arrK .u8 H 32) (0, 0) _ (Blk.new rfl rfl) Tryd.underlying28 rfl (by rw [arrK_size]; kernel_rfl) ?_)
    | (refine wpList_buildTo rfl 108 _ rfl _ rfl (drwA H (c + 1)) (by kernel_rfl) ?_)
    | (refine wpList_store_rowTo rfl 108 _ _ rfl rfl o2 (drwA H (c + 1)) rfl rfl 108 (drwA zeroH 0) (HZ3.out.alloc _) (sizeTr _ _) (by rw [drwA_size, drwA_size]) (drwA_one _ _) ?_))
  refine bodyPost_ret (v := .tuple #[.agg (drwA H (c + 1)), .int .i64 0]) (results_row_tmp Tryd.results77 _ _ o2 108 _ (0, 0) _ (by rfl) ((HZ3.out.alloc _).row _) Tryd.underlying108 rfl (sizeTr _ _)) rfl ⟨rfl, (HU3.out.alloc _).setRow (by have := HO.out; have := HO1.out; have := HO2.out; omega) _⟩
end Go.Proofs.YtkimojconidhlaaDoor
namespace Go.Proofs.YtkimojconidhlaaDoor
open Go.RowKit Go.Sp
set_option maxHeartbeats 4000000
set_option maxRecDepth 20000

theorem encInts_length (xs : List Int) : (encInts xs).length = xs.length * 9 + 5 := by
  rw [encInts, encList_length]
  congr 1
  induction xs with
  | nil => rfl
  | cons x xs ih => rw [List.map_cons, List.flatten_cons, List.length_append, ih, encInt_length, List.length_cons]; omega
theorem encInts_byt (xs : List Int) : ∀ y ∈ encInts xs, 0 ≤ y ∧ y ≤ 255 := by
  refine encList_byt fun e he => ?_
  obtain ⟨x, _, rfl⟩ := List.mem_map.1 he
  exact encInt_byt x
theorem ints_shape {w : World} {v : Value} {xs : List Int} (h : IntsAt w v xs) : ∃ a n c, v = .slice a n c := by
  obtain ⟨_, a, c, rfl, _⟩ := h
  exact ⟨_, _, _, rfl⟩

theorem encInts_ok (v : Value) (xs : List Int) (w : World) (hv : IntsAt w v xs) (hl : xs.length ≤ 1000) :
    Calls Tryd.prog 25 #[v] w fun e w' => ∃ l, e = .returned (itm 3 0 nilS l) ∧ ItmAt w' 1 3 0 nilS l (encInts xs) ∧ Up w w' := by
  obtain ⟨l1, a1, cp1, rfl, hc1⟩ := hv
  have HC := hid hc1
  obtain ⟨n, hn⟩ : ∃ n, xs.length = n := ⟨_, rfl⟩
  have HN := hid hn
  rw [hn] at l1 hl
  rw [hn]
  clear hc1 hn
  obtain ⟨o, ho⟩ : ∃ o, w.heap.size = o := ⟨_, rfl⟩
  have HO := hid ho
  obtain ⟨o1, ho1⟩ : ∃ o1, o + 1 = o1 := ⟨_, rfl⟩
  have HO1 := hid ho1
  obtain ⟨o2, ho2⟩ : ∃ o2, o1 + 1 = o2 := ⟨_, rfl⟩
  have HO2 := hid ho2
  clear ho ho1 ho2
  go_enter Tryd.func25, Tryd.ntmps25
  go_wp2_with fail
  have HZ0 : Hid (Blk ((w.alloc (.cells #[.int .i64 0, .int .i64 0, nilS, nilS] 53)).alloc (.cells #[.int .i64 3, .int .i64 0, nilS, nilS] 53)) o 53 #[.int .i64 0, .int .i64 0, nilS, nilS]) := hid ((Blk.new HO.out rfl).alloc _)
  have HL0 : Hid (Blk ((w.alloc (.cells #[.int .i64 0, .int .i64 0, nilS, nilS] 53)).alloc (.cells #[.int .i64 3, .int .i64 0, nilS, nilS] 53)) o1 53 #[.int .i64 3, .int .i64 0, nilS, nilS]) := hid (Blk.new (by have := HO.out; have := HO1.out; simp; omega) rfl)
  have HU0 : Hid (Up w ((w.alloc (.cells #[.int .i64 0, .int .i64 0, nilS, nilS] 53)).alloc (.cells #[.int .i64 3, .int .i64 0, nilS, nilS] 53))) := hid (((Up.refl w).alloc _).alloc _)
  rw [HO.out, HO1.out]
  rw [show (w.alloc (.cells #[.int .i64 0, .int .i64 0, .slice none 0 0, .slice none 0 0] 53)).alloc (.cells #[.int .i64 3, .int .i64 0, .slice none 0 0, .slice none 0 0] 53) = (w.alloc (.cells #[.int .i64 0, .int .i64 0, nilS, nilS] 53)).alloc (.cells #[.int .i64 3, .int .i64 0, nilS, nilS] 53) from rfl]
  generalize (w.alloc (.cells #[.int .i64 0, .int .i64 0, nilS, nilS] 53)).alloc (.cells #[.int .i64 3, .int .i64 0, nilS, nilS] 53) = w0 at *
  go_loopw [9] (fun vi wr => ∃ (i : Nat) (ad : Option Addr) (cp : Nat), i ≤ n ∧ vi = .int .i64 i ∧ Hid (Blk wr o1 53 #[.int .i64 3, .int .i64 0, nilS, .slice ad i cp]) ∧ Hid (Blk wr o 53 #[.int .i64 0, .int .i64 0, nilS, nilS]) ∧ Hid (OwnQ 53 wr o2 (.slice ad i cp) ((xs.take i).map quadI)) ∧ Hid (Up w wr)) (fun vi _ => n - (intOf vi).toNat)
  case atStart => exact ⟨0, none, 0, by omega, rfl, HL0, HZ0, hid ownQ_none, HU0⟩
  case round =>
    clear HL0 HZ0 HU0
    obtain ⟨i, ad, cp, hi, rfl, HL, HZ, HQ, HU⟩ := hrel
    have lL : o1 < wr.heap.size := HL.out.lt
    have hlo : o < o1 := by have := HO1.out; omega
    have hlo2 : o1 < o2 := by have := HO2.out; omega
    have hlw : w.heap.size ≤ o := by have := HO.out; omega
    by_cases hlt : i < n
    · have hlx : i < xs.length := by rw [HN.out]; exact hlt
      obtain ⟨b1, f1, rfl, q1⟩ := ints_cell HC.out HU.out hlx
      have HT : Hid (xs.take (i + 1) = xs.take i ++ [xs.getD i 0]) := hid (by rw [List.take_succ_eq_append_getElem hlx]; simp [hlx])
      have HLi : Hid (((xs.take i).map quadI).length = i) := hid (by simp; omega)
      have HLi1 : Hid (((xs.take (i + 1)).map quadI).length = i + 1) := hid (by simp; omega)
      clear hlx
      generalize xs.getD i 0 = x at *
      have HQ7 : Hid ((xs.take i).map quadI ++ [quadI x] = (xs.take (i + 1)).map quadI) := hid (by rw [HT.out, List.map_append]; rfl)
      have q3 := HL.out.val (i := 3) rfl
      go_wp2_with (at_builtin; refine wp_appQ infoItm rfl Tryd.underlying51 (by omega) rfl _ _ rfl o2 rfl (HQ.out.up ((Up.refl wr).alloc _)) wr.heap.size 1 (news := [quadI x]) rfl (fun j hj => by (obtain rfl : j = 0 := (by simp at hj; omega)); exact itm_new rfl) (fun j hj => by (obtain rfl : j = 0 := (by simp at hj; omega)); exact ⟨rfl, rfl⟩) (by have := HLi.out; simp; simp at this; omega) (by have := HO2.out; simp; omega) ?_; intro v5 w5 hO5 hg5; have hB5 : Below o2 wr w5 := below_trans (below_of_up ((Up.refl wr).alloc _) (by have := HO2.out; omega)) ((HQ.out.up ((Up.refl _).alloc _)).below hg5 (by have := HO2.out; simp; omega)); have HL5 := hid (HL.out.below hB5 hlo2); have k3 := HL5.out.val (i := 3) rfl; have y3 := HL5.out.thawed 3; rw [HQ7.out] at hO5; obtain ⟨a5, c5, rfl⟩ := hO5.shape; rw [HLi1.out] at hO5; rw [HLi1.out])
      have HL6 : Hid (Blk (w5.setCell ⟨o1, 3, none⟩ (.slice a5 (i + 1) c5)) o1 53 #[.int .i64 3, .int .i64 0, nilS, .slice a5 (i + 1) c5]) := hid (HL5.out.wrote 3 _)
      have HZ6 := hid ((HZ.out.below hB5 (by omega)).apart (a := ⟨o1, 3, none⟩) (show o ≠ o1 by omega) (.slice a5 (i + 1) c5))
      have HQ6 := hid (hO5.set (a := ⟨o1, 3, none⟩) (show o1 < o2 by omega) (.slice a5 (i + 1) c5))
      have HU6 := hid ((up_below HU.out hB5 (by omega)).setCell (a := ⟨o1, 3, none⟩) (show w.heap.size ≤ o1 by omega) (.slice a5 (i + 1) c5))
      clear hO5 hg5 hB5 HL5 k3 y3 q3 q1
      go_roundw
      case rel => exact ⟨i + 1, a5, c5, by omega, by go_num, HL6, HZ6, HQ6, HU6⟩
      case measure => simp [intOf]; omega
    · obtain rfl : i = n := by omega
      have HQr : Hid (OwnQ 53 wr o2 (.slice ad i cp) (xs.map quadI)) := hid (by
        have := HQ.out
        rw [List.take_of_length_le (by rw [HN.out]; omega)] at this
        exact this)
      have k0 := HL.out.val (i := 0) rfl
      have k1 := HL.out.val (i := 1) rfl
      have k2 := HL.out.val (i := 2) rfl
      have k3 := HL.out.val (i := 3) rfl
      have z0 := HZ.out.val (i := 0) rfl
      have z1 := HZ.out.val (i := 1) rfl
      have z2 := HZ.out.val (i := 2) rfl
      have z3 := HZ.out.val (i := 3) rfl
      have y0 := HZ.out.thawed 0
      have y1 := HZ.out.thawed 1
      have y2 := HZ.out.thawed 2
      have y3 := HZ.out.thawed 3
      clear HQ
      go_wp2
      refine bodyPost_ret (v := itm 3 0 nilS (.slice ad i cp)) (results_cell_row rfl _ _ o 53 _ (0, 0) _ (by rfl) (blk_four HZ.out _ _ _ _) Tryd.underlying53 rfl (by kernel_rfl)) rfl ⟨.slice ad i cp, rfl, ?_, (((HU.out.setCell hlw _).setCell hlw _).setCell hlw _).setCell hlw _⟩
      refine itm_list ((((((HQr.out.set (a := ⟨o, 0, none⟩) (show o < o2 by omega) _).set (a := ⟨o, 1, none⟩) (show o < o2 by omega) _).set (a := ⟨o, 2, none⟩) (show o < o2 by omega) _).set (a := ⟨o, 3, none⟩) (show o < o2 by omega) _)).row (quadI_at _ 0 xs)) (by rw [List.length_map, HN.out]; exact hl)

theorem tInts_ok (h : Nat → Int) (c : Int) (s : ByteArray) (v : Value) (xs : List Int) (w : World) (hT : TabS w) (hB : Byt h) (c0 : 0 ≤ c) (c1 : c < 1000) (hs : Lab s) (hv : IntsAt w v xs) (hl : xs.length ≤ 1000) :
    Calls Tryd.prog 76 #[drw h c, .string s, v] w fun e w' => e = .returned (.tuple #[drw (absB h (txt s) (encInts xs)) (c + 1), .int .i64 0]) ∧ Up w w' := by
  have M1 := hid (fun w' (hU : Up w w') => encInts_ok v xs w' (hv.up hU) hl)
  have M2 := hid (fun w' (l : Value) (hU : Up w w') (hq : ItmAt w' 1 3 0 nilS l (encInts xs)) => tAbsorb_ok h c s 3 0 nilS l (encInts xs) w' (hT.up hU) hB c0 c1 hs hq.more.more.more.more.more (by rw [encInts_length]; omega) (encInts_byt xs))
  generalize absB h (txt s) (encInts xs) = H at *
  have HSz := hid (sizeTr h c)
  unfold drw at M2 ⊢
  generalize drwA h c = cs at *
  obtain ⟨av, nv, cv, rfl⟩ := ints_shape hv
  clear hT hB hs hv hl c0 c1
  obtain ⟨o, ho⟩ : ∃ o, w.heap.size = o := ⟨_, rfl⟩
  have HO := hid ho
  obtain ⟨o1, ho1⟩ : ∃ o1, o + 1 = o1 := ⟨_, rfl⟩
  have HO1 := hid ho1
  clear ho ho1
  go_enter Tryd.func76, Tryd.ntmps76
  go_wp2_with fail
  generalize hW : World.alloc _ _ = w0
  have HS0 : Hid (Blk w0 o 108 cs) := hid (by rw [← hW]; exact (Blk.new HO.out rfl).alloc _)
  have HZ0 : Hid (Blk w0 o1 108 (drwA zeroH 0)) := hid (by rw [← hW]; exact Blk.new (by have := HO.out; have := HO1.out; simp; omega) zero33)
  have HU0 : Hid (Up w w0) := hid (by rw [← hW]; exact ((Up.refl w).alloc _).alloc _)
  rw [HO.out, HO1.out]
  clear hW
  refine region_E (fun w' => Blk w' o 108 cs) 8 (by kernel_rfl) (HS0.out.up (Up.refl _).drew) fun hS => ?_
  refine anyE_take (i := 0) (v := .agg cs.toList.toArray) 8 rfl rfl (by kernel_rfl) (by kernel_rfl) (by decide) (fun _ _ _ h => h) (by kernel_rfl) (by kernel_rfl) (yieldsIf_load_mid (by rfl) 108 _ rfl o 0 rfl cs.toList _ (fun u hu => blk_range hu) Tryd.underlying108 rfl (by rw [Array.length_toList]; exact HSz.out)) hS ?_
  rw [Array.toArray_toList]
  simp only [Act.put, List.setIfInBounds_toArray, List.set_cons_zero, List.set_cons_succ]
  refine anyE_take (i := 1) (v := ?_) 9 rfl rfl (by kernel_rfl) (by kernel_rfl) (by decide) (fun _ _ _ h => h) (by kernel_rfl) (by kernel_rfl) (.inl ⟨by rfl, fun u hu => ?_⟩) hS ?_
  rotate_left
  · (go_simp; first | done | with_reducible rfl)
  simp only [Act.put, List.setIfInBounds_toArray, List.set_cons_zero, List.set_cons_succ]
  refine anyE_take (i := 2) (v := ?_) 10 rfl rfl (by kernel_rfl) (by kernel_rfl) (by decide) (fun _ _ _ h => h) (by kernel_rfl) (by kernel_rfl) (.inl ⟨by rfl, fun u hu => ?_⟩) hS ?_
  rotate_left
  · (go_simp; first | done | with_reducible rfl)
  simp only [Act.put, List.setIfInBounds_toArray, List.set_cons_zero, List.set_cons_succ]
  refine anyE_one (i := 3) rfl (by kernel_rfl) rfl (fun K hK => ?_)
  go_simp
  refine (M1.out _ (HU0.out.drew)).mono ?_
  rintro e w2 ⟨l2, rfl, hI2, hU2⟩
  dsimp only
  have hS2 := Blk.up hS hU2
  have hD2 := HU0.out.drew.trans hU2
  have hZ2 := (HZ0.out.up (Up.refl _).drew).up hU2
  refine hK.out _ _ (.inr hS2) ?_
  clear hK
  try simp only [Act.put, List.setIfInBounds_toArray, List.set_cons_zero, List.set_cons_succ]
  refine anyE_one (i := 4) rfl (by kernel_rfl) rfl (fun K hK => ?_)
  go_simp
  refine (M2.out _ l2 hD2 hI2).mono ?_
  rintro e w3 ⟨rfl, hU3⟩
  dsimp only
  have hS3 := Blk.up hS2 hU3
  have hD3 := hD2.trans hU3
  have hZ3 := hZ2.up hU3
  refine hK.out _ _ (.inr hS3) ?_
  clear hK
  try simp only [Act.put, List.setIfInBounds_toArray, List.set_cons_zero, List.set_cons_succ]
  refine anyE_take (i := 5) (v := ?_) 13 rfl rfl (by kernel_rfl) (by kernel_rfl) (by decide) (fun _ _ _ h => h) (by kernel_rfl) (by kernel_rfl) (.inl ⟨by rfl, fun u hu => ?_⟩) hS3 ?_
  rotate_left
  · (go_simp; first | done | with_reducible rfl)
  simp only [Act.put, List.setIfInBounds_toArray, List.set_cons_zero, List.set_cons_succ]
  refine anyE_take (i := 6) (v := ?_) 14 rfl rfl (by kernel_rfl) (by kernel_rfl) (by decide) (fun _ _ _ h => h) (by kernel_rfl) (by kernel_rfl) (.inl ⟨by rfl, fun u hu => ?_⟩) hS3 ?_
  rotate_left
  · (go_simp; first | done | with_reducible rfl)
  simp only [Act.put, List.setIfInBounds_toArray, List.set_cons_zero, List.set_cons_succ]
  refine anyE_one (i := 7) rfl (by kernel_rfl) rfl (fun K hK => ?_)
  refine op_store_row 108 _ _ rfl rfl o1 (drwA H (c + 1)) rfl rfl 108 (drwA zeroH 0) hZ3 (sizeTr _ _) (by rw [drwA_size, drwA_size]) (drwA_one _ _) ?_
  have hS4 : Blk (w3.setRow o1 (drwA H (c + 1))) o 108 cs := Blk.rowApart hS3 (by have := HO1.out; omega) _
  refine hK.out _ _ (.inr hS4) ?_
  clear hK
  refine anyE_one (i := 8) rfl (by kernel_rfl) rfl (fun K hK => ?_)
  go_simp
  refine hK.out _ _ (.inl rfl) (anyE_done (by kernel_rfl) ?_ _)
  clear hK
  go_wp2
  refine bodyPost_ret (v := .tuple #[.agg (drwA H (c + 1)), .int .i64 0]) (results_row_tmp Tryd.results76 _ _ o1 108 _ (0, 0) _ (by rfl) (hZ3.row _) Tryd.underlying108 rfl (sizeTr _ _)) rfl ⟨rfl, hD3.setRow (by have := HO.out; have := HO1.out; omega) _⟩

theorem tChallenge_ok (h : Nat → Int) (c : Int) (s : ByteArray) (q : Int) (w : World) (hT : TabS w) (hB : Byt h) (c0 : 0 ≤ c) (c1 : c < 1000) (hs : Lab s) (q0 : 2 ≤ q) (q1 : q < 2305843009213693952) :
    Calls Tryd.prog 57 #[drw h c, .string s, .int .i64 q] w fun e w' => (∃ T, e = .returned (.tuple #[.agg T, .int .i64 (chalN h (txt s) q), .int .i64 0]) ∧ T.size = 33 ∧ T.all (·.oneCell') = true) ∧ Up w w' := by
  have HVc : Hid (chalN h (txt s) q = numH (tagB (txt chTag) (frameE h (txt s) [])) q) := hid (by rw [chTag_txt]; rfl)
  have M1 := hid (fun w' => tValid_ok h c w' c0 (by omega))
  have M2 := hid (fun w' => tvalid_ok s w' hs)
  have M3 := hid (fun w' (hU : Up w w') => thash_none chTag h c s w' (hT.up hU) hB (by decide) (by decide) hs)
  have HHb := hid (tagB_range (txt chTag) (frameE h (txt s) []))
  generalize tagB (txt chTag) (frameE h (txt s) []) = R at *
  have M4 := hid (fun w' => Number_ok R q w' HHb.out (by omega) q1)
  rw [← HVc.out] at M4
  generalize chalN h (txt s) q = C at *
  have M5 := hid (fun w' (hU : Up w w') => tAbsorb_ok h c s 1 C nilS nilS (encInt C) w' (hT.up hU) hB c0 c1 hs (itm_int w' C 6) (by rw [encInt_length]; omega) (encInt_byt C))
  generalize absB h (txt s) (encInt C) = H at *
  have hctr := drwA_ctr h c
  have HCt := hid hctr
  have HSz := hid (sizeTr h c)
  unfold drw at M1 M3 M5 ⊢
  generalize drwA h c = cs at *
  have dc : (c == 1000) = false := by simp; omega
  have dq : decide (q < 2) = false := by simp; omega
  have dq2 : decide (q ≥ 2305843009213693952) = false := by simp; omega
  clear hT hB hs hctr q0 q1 c0 c1
  obtain ⟨o, ho⟩ : ∃ o, w.heap.size = o := ⟨_, rfl⟩
  have HO := hid ho
  obtain ⟨o1, ho1⟩ : ∃ o1, o + 1 = o1 := ⟨_, rfl⟩
  have HO1 := hid ho1
  clear ho ho1
  go_enter Tryd.func57, Tryd.ntmps57
  have hB0 := Blk.new (w := w) (t := 108) (cs := cs) (g := w.heap.size) rfl rfl
  go_wp2_with (refine wpList_load_row rfl 108 _ rfl w.heap.size rfl 108 cs (0, 0) _ (hB0.alloc _) Tryd.underlying108 rfl HSz.out ?_)
  refine (M1.out _).mono ?_
  rintro e w1 ⟨rfl, hU1⟩
  have HS1 := hid (((Blk.new (w := w) (t := 108) (cs := cs) (g := o) HO.out rfl).up ((Up.refl _).alloc _)).up hU1)
  have HZ1 : Hid (Blk w1 o1 108 (drwA zeroH 0)) := hid ((Blk.new (g := o1) (t := 108) (by have := HO.out; have := HO1.out; simp; omega) zero33).up hU1)
  have HU1 := hid ((((Up.refl w).alloc _).alloc _).trans hU1)
  rw [HO.out, HO1.out]
  clear hU1 hB0
  go_wp2_with fail
  refine (M2.out _).mono ?_
  rintro e w2 ⟨rfl, hU2⟩
  have HS2 := hid (HS1.out.up hU2)
  have HZ2 := hid (HZ1.out.up hU2)
  have HU2 := hid (HU1.out.trans hU2)
  clear hU2 HS1 HZ1 HU1
  have q32 : w2.cell? ⟨o, 32, none⟩ = some (.int .i64 c) := HS2.out.val HCt.out
  go_wp2_with (refine wpList_load_row rfl 108 _ rfl o rfl 108 cs (0, 0) _ HS2.out Tryd.underlying108 rfl HSz.out ?_)
  refine (M3.out _ HU2.out).mono ?_
  rintro e w3 ⟨rfl, hU3⟩
  have HS3 := hid (HS2.out.up hU3)
  have HZ3 := hid (HZ2.out.up hU3)
  have HU3 := hid (HU2.out.trans hU3)
  clear hU3 HS2 HZ2 HU2 q32
  unfold hashV at M4 ⊢
  go_wp2_with (first
    | (refine wpList_store_rowTo rfl 28 _ _ rfl rfl _ _ rfl rfl 28 _ (heap_alloc_new _ _) (by rw [arrK_size]; kernel_rfl) (by rw [arrK_size]; rfl) arrK_one ?_; rw [World.setRow_alloc_new])
    | (refine wpList_load_row rfl 28 _ rfl w3.heap.size rfl 28 (arrK .u8 R 32) (0, 0) _ (Blk.new rfl rfl) Tryd.underlying28 rfl (by rw [arrK_size]; kernel_rfl) ?_))
  refine (M4.out _).mono ?_
  rintro e w4 ⟨rfl, hU4⟩
  have hU4 := ((Up.refl w3).alloc _).trans hU4
  have HS4 := hid (HS3.out.up hU4)
  have HZ4 := hid (HZ3.out.up hU4)
  have HU4 := hid (HU3.out.trans hU4)
  clear hU4 HS3 HZ3 HU3
  go_wp2_with (refine wpList_load_row rfl 108 _ rfl o rfl 108 cs (0, 0) _ HS4.out Tryd.underlying108 rfl HSz.out ?_)
  refine (M5.out _ HU4.out).mono ?_
  rintro e w5 ⟨rfl, hU5⟩
  have HZ5 := hid (HZ4.out.up hU5)
  have HU5 := hid (HU4.out.trans hU5)
  clear hU5 HS4 HZ4 HU4
  have l1 := HZ5.out.lt
  go_wp2_with (first
    | (refine wpList_store_rowTo rfl 108 _ _ rfl rfl o1 (drwA H (c + 1)) rfl rfl 108 (drwA zeroH 0) (HZ5.out.alloc _) (sizeTr _ _) (by rw [drwA_size, drwA_size]) (drwA_one _ _) ?_)
    | (refine wpList_store_rowTo rfl 108 _ _ rfl rfl _ _ rfl rfl 108 _ (heap_alloc_new _ _) (sizeTr _ _) (by rw [drwA_size]; rfl) (drwA_one _ _) ?_; rw [World.setRow_alloc_new])
    | (refine wpList_load_row rfl 108 _ rfl w5.heap.size rfl 108 (drwA H (c + 1)) (0, 0) _ (Blk.new rfl rfl) Tryd.underlying108 rfl (sizeTr _ _) ?_))
  refine bodyPost_ret (v := .tuple #[.agg (drwA H (c + 1)), .int .i64 C, .int .i64 0]) (results_row_tmp2 Tryd.results57 _ _ o1 108 _ (0, 0) _ (by rfl) ((HZ5.out.alloc _).row _) Tryd.underlying108 rfl (sizeTr _ _)) rfl ⟨⟨drwA H (c + 1), rfl, drwA_size _ _, drwA_one _ _⟩, (HU5.out.alloc _).setRow (by have := HO.out; have := HO1.out; omega) _⟩
end Go.Proofs.YtkimojconidhlaaDoor
