/- Package draw: Next. Package draw: Nonzero. Package draw: New. Package draw: Bytes. Package transcript: New, Absorb, Ints, Challenge. -/
import Derived.Test.YtoaomjdpiealfaaGreatDoorMB10
import Derived.Test.YtoaomjdpiealfaaGreatDoorMB15
namespace Go.Proofs.YtoaomjdpiealfaaGreatDoor
open Go.RowKit Go.Sp
set_option maxHeartbeats 2000000
set_option maxRecDepth 20000

/-- What Next returns. -/
def nxtV (h : Nat → Int) (c q : Int) : Value :=
  if chkE c q 1 2305843009213693951 = 0 then .tuple #[bif (numT h q 256 c 0).2.2 then drw zeroH 0 else drw h (numT h q 256 c 0).2.1, .int .i64 (numT h q 256 c 0).1, .int .i64 (bif (numT h q 256 c 0).2.2 then 5 else 0)]
  else .tuple #[drw zeroH 0, .int .i64 0, .int .i64 (chkE c q 1 2305843009213693951)]

theorem chk_iff {c n lo hi : Int} : chkE c n lo hi = 0 ↔ (0 ≤ c ∧ c ≤ 1099511627776) ∧ lo ≤ n ∧ n ≤ hi := by
  unfold chkE
  rw [← dvB_iff]
  by_cases h1 : dvB c = true
  · by_cases h2 : lo ≤ n ∧ n ≤ hi
    · simp [h1, h2]
    · simp [h1, h2]
  · simp [h1]

theorem Up.grownNew {w w1 w2 : World} {b : Nat} (hU : Up w w1) (hg : w1.grownBy w2 (some b)) (hb : w.heap.size ≤ b) : Up w w2 :=
  Below.grown hU.below hg hU.size (fun k hk => by simp at hk; omega)

end Go.Proofs.YtoaomjdpiealfaaGreatDoor
namespace Go.Proofs.YtoaomjdpiealfaaGreatDoor
open Go.RowKit Go.Sp
set_option maxHeartbeats 2000000
set_option maxRecDepth 20000

theorem numT_range {h : Nat → Int} {q : Int} : ∀ (n : Nat) (c x : Int), 0 ≤ c → c ≤ 1099511627776 → c ≤ (numT h q n c x).2.1 ∧ (numT h q n c x).2.1 ≤ 1099511627776
  | 0, c, x, h0, h1 => ⟨Int.le_refl _, h1⟩
  | n + 1, c, x, h0, h1 => by
    by_cases hc : c = 1099511627776
    · rw [numT, if_pos hc]; exact ⟨Int.le_refl _, h1⟩
    · rw [numT, if_neg hc]
      split
      · exact ⟨by simp; omega, by simp; omega⟩
      · have := numT_range (h := h) (q := q) n (c + 1) (firK (shaB (posL h c)) 8 % 2 ^ maskN q) (by omega) (by omega)
        omega

/-- A number other than 0: the number, the counter, and whether there was no block. -/
def nzT (h : Nat → Int) (q : Int) : Nat → Int → Int × Int × Bool
  | 0, c => (1, c, false)
  | n + 1, c => if (numT h q 256 c 0).2.2 = true then (0, c, true) else if (numT h q 256 c 0).1 ≠ 0 then ((numT h q 256 c 0).1, (numT h q 256 c 0).2.1, false) else nzT h q n (numT h q 256 c 0).2.1

/-- What Nonzero returns. -/
def nznV (h : Nat → Int) (c q : Int) : Value :=
  if chkE c q 2 2305843009213693951 = 0 then .tuple #[bif (nzT h q 256 c).2.2 then drw zeroH 0 else drw h (nzT h q 256 c).2.1, .int .i64 (nzT h q 256 c).1, .int .i64 (bif (nzT h q 256 c).2.2 then 5 else 0)]
  else .tuple #[drw zeroH 0, .int .i64 0, .int .i64 (chkE c q 2 2305843009213693951)]

theorem nzT_full {h : Nat → Int} {q : Int} {n : Nat} {c : Int} (hf : (numT h q 256 c 0).2.2 = true) : nzT h q (n + 1) c = (0, c, true) := by rw [nzT, if_pos hf]
theorem nzT_num {h : Nat → Int} {q : Int} {n : Nat} {c : Int} (hf : (numT h q 256 c 0).2.2 = false) (h1 : (numT h q 256 c 0).1 ≠ 0) : nzT h q (n + 1) c = ((numT h q 256 c 0).1, (numT h q 256 c 0).2.1, false) := by
  rw [nzT, if_neg (by simp [hf]), if_pos h1]
theorem nzT_next {h : Nat → Int} {q : Int} {n : Nat} {c : Int} (hf : (numT h q 256 c 0).2.2 = false) (h1 : (numT h q 256 c 0).1 = 0) : nzT h q (n + 1) c = nzT h q n (numT h q 256 c 0).2.1 := by
  rw [nzT, if_neg (by simp [hf]), if_neg (by simp [h1])]

theorem Nonzero_any (h : Nat → Int) (c q : Int) (w : World) (hT : TabS w) (hB : Byt h) :
    Calls Tryz.prog 123 #[drw h c, .int .i64 q] w fun e w' => e = .returned (nznV h c q) ∧ Up w w' := by
  have HT := hid hT
  have HB := hid hB
  obtain ⟨E, hE⟩ : ∃ E, chkE c q 2 2305843009213693951 = E := ⟨_, rfl⟩
  have HE := hid hE
  obtain ⟨V, hV⟩ : ∃ V, nznV h c q = V := ⟨_, rfl⟩
  have HV := hid hV
  rw [hV]
  clear hT hB hV
  have HC := hid (fun w' => check_draw_any h c q 2 2305843009213693951 w')
  rw [hE] at HC
  clear hE
  unfold drw at HC ⊢
  go_enter Tryz.func123, Tryz.ntmps123
  have hB0 := Blk.new (w := w) (t := 105) (cs := drwA h c) rfl rfl
  have hB1 := Blk.new (w := w.alloc (.cells (drwA h c) 105)) (t := 105) (g := w.heap.size + 1) (by simp) zero33
  go_wp2_with (refine wpList_load_row rfl 105 _ rfl w.heap.size rfl 105 (drwA h c) (0, 0) _ (hB0.alloc _) Tryz.underlying105 rfl (sizeDrw _ _) ?_)
  refine (HC.out _).mono ?_
  rintro e w1 ⟨rfl, hU1⟩
  have HB0 := hid ((hB0.alloc _).up hU1)
  have HB1 := hid (hB1.up hU1)
  have HU1 := hid ((((Up.refl w).alloc _).alloc _).trans hU1)
  clear hU1 hB0 hB1 HC
  obtain ⟨o, ho⟩ : ∃ o, w.heap.size + 1 = o := ⟨_, rfl⟩
  have HOo := hid ho
  clear ho
  by_cases h0 : E = 0
  case neg =>
    have d1 : (E != 0) = true := by simpa using h0
    have HVr : Hid (V = .tuple #[drw zeroH 0, .int .i64 0, .int .i64 E]) := hid (by rw [← HV.out, nznV, HE.out, if_neg h0])
    clear h0
    rw [HOo.out] at HB1
    rw [HOo.out]
    go_wp2_with (refine wpList_store_rowTo rfl 105 _ _ rfl rfl o (drwA zeroH 0) ?_ ?_ 105 (drwA zeroH 0) ?_ ?_ ?_ ?_ ?_)
    · rfl
    · exact (congrArg Value.agg zero33)
    · exact HB1.out
    · exact sizeDrw _ _
    · rfl
    · exact drwA_one _ _
    refine bodyPost_ret (v := .tuple #[.agg (drwA zeroH 0), .int .i64 0, .int .i64 E]) (results_row_tmp2 Tryz.results123 _ _ o 105 _ (0, 0) _ (by rfl) (HB1.out.row _) Tryz.underlying105 rfl (sizeDrw _ _)) rfl ⟨by rw [HVr.out]; rfl, HU1.out.setRow (by have := HOo.out; omega) _⟩
  have hk := chk_iff.1 (HE.out.trans h0)
  have HK := hid hk
  obtain ⟨R, hR⟩ : ∃ R, nzT h q 256 c = R := ⟨_, rfl⟩
  have HR := hid hR
  have HVr : Hid (V = .tuple #[bif R.2.2 then drw zeroH 0 else drw h R.2.1, .int .i64 R.1, .int .i64 (bif R.2.2 then 5 else 0)]) := hid (by rw [← HV.out, nznV, if_pos (HE.out.trans h0), hR])
  subst h0
  clear hk HE HV hR
  go_wp2_with (first
    | (refine wpList_load_row rfl 105 _ rfl w.heap.size rfl 105 (drwA h c) (0, 0) _ HB0.out Tryz.underlying105 rfl (sizeDrw _ _) ?_)
    | (refine wpList_buildTo rfl 211 _ rfl _ rfl (srcA h c false) (by kernel_rfl) ?_))
  have ho := HOo.out
  have l1 := HB1.out.lt
  have HS2 : Hid (Blk (w1.alloc (.cells (srcA h c false) 211)) w1.heap.size 211 (srcA h c false)) := hid (Blk.new rfl rfl)
  have HZ2 := hid (HB1.out.alloc (.cells (srcA h c false) 211))
  have HU2 := hid (HU1.out.alloc (.cells (srcA h c false) 211))
  have HT2 := hid (HT.out.up HU2.out)
  obtain ⟨b, hb⟩ : ∃ b, w1.heap.size = b := ⟨_, rfl⟩
  obtain ⟨w2, hw2⟩ : ∃ w2, w1.alloc (.cells (srcA h c false) 211) = w2 := ⟨_, rfl⟩
  rw [hb, hw2] at HS2
  rw [ho, hw2] at HZ2
  rw [hw2] at HU2 HT2
  have hob : o < b := by rw [← ho, ← hb]; exact l1
  have hwo : w.heap.size ≤ o := by omega
  have HC2 : Hid (0 ≤ c ∧ c ≤ 1099511627776) := hid HK.out.1
  rw [ho, hb, hw2]
  obtain ⟨o0, ho0⟩ : ∃ o0, w.heap.size = o0 := ⟨_, rfl⟩
  rw [ho0]
  have HO0 := hid ho0
  clear ho hb hw2 l1 HB0 HB1 HU1 HOo ho0
  go_loopw [20] (fun vi wr => ∃ (i : Nat) (d : Int), i ≤ 256 ∧ vi = .int .i64 i ∧ Hid (nzT h q (256 - i) d = R) ∧ Hid (0 ≤ d ∧ d ≤ 1099511627776) ∧ Hid (Blk wr b 211 (srcA h d false)) ∧ Hid (Blk wr o 105 (drwA zeroH 0)) ∧ Hid (Up w wr) ∧ Hid (TabS wr)) (fun vi _ => 256 - (intOf vi).toNat)
  case atStart => exact ⟨0, c, by omega, rfl, HR, HC2, HS2, HZ2, HU2, HT2⟩
  case round =>
    clear HS2 HZ2 HU2 HT2 HC2 HR
    obtain ⟨i, d, hi, rfl, HRi, HD, HS, HZ, HU, HTr⟩ := hrel
    by_cases hlt : i < 256
    · obtain ⟨n, hn⟩ : ∃ n, 256 - i = n + 1 := ⟨255 - i, by omega⟩
      have Hn := hid hn
      rw [hn] at HRi
      clear hn
      go_wp2_with fail
      refine (number_any h d false q b _ HTr.out HB.out HS.out HD.out.1 HD.out.2 (fun h => by cases h) (by have := HK.out.2.1; omega) HK.out.2.2).mono ?_
      rintro e w3 ⟨rfl, hS3, hg3⟩
      have HZ3 := hid (Blk.grownOut HZ.out hg3 (by omega))
      have HU3 := hid (Up.grownNew HU.out hg3 (by omega))
      have HT3 := hid (HTr.out.grown HS.out hg3)
      have HS3 := hid hS3
      obtain ⟨r0, r1⟩ := numT_range (h := h) (q := q) 256 d 0 HD.out.1 HD.out.2
      have HD3 : Hid (0 ≤ (numT h q 256 d 0).2.1 ∧ (numT h q 256 d 0).2.1 ≤ 1099511627776) := hid ⟨by have := HD.out.1; omega, r1⟩
      have P1 := hid (fun hf => nzT_full (h := h) (q := q) (n := n) (c := d) hf)
      have P2 := hid (fun hf h1 => nzT_num (h := h) (q := q) (n := n) (c := d) hf h1)
      have P3 := hid (fun hf h1 => nzT_next (h := h) (q := q) (n := n) (c := d) hf h1)
      rw [HRi.out] at P1 P2 P3
      clear hS3 hg3 HZ HU HTr HS r0 r1 HRi
      generalize (numT h q 256 d 0).1 = v at *
      generalize (numT h q 256 d 0).2.1 = c3 at *
      generalize (numT h q 256 d 0).2.2 = F at *
      have f0 := HS3.out.val (srcA_full h c3 F)
      have l0 := HS3.out.lt
      cases F with
      | true =>
        have hr : R = (0, d, true) := P1.out rfl
        subst hr
        clear P1 P2 P3
        go_wp2_with (refine wpList_store_rowTo rfl 105 _ _ rfl rfl o (drwA zeroH 0) ?_ ?_ 105 (drwA zeroH 0) ?_ ?_ ?_ ?_ ?_)
        · rfl
        · exact (congrArg Value.agg zero33)
        · exact HZ3.out
        · exact sizeDrw _ _
        · rfl
        · exact drwA_one _ _
        refine bodyPost_ret (v := .tuple #[.agg (drwA zeroH 0), .int .i64 0, .int .i64 5]) (results_row_tmp2 Tryz.results123 _ _ o 105 _ (0, 0) _ (by rfl) (HZ3.out.row _) Tryz.underlying105 rfl (sizeDrw _ _)) rfl ⟨by rw [HVr.out]; rfl, HU3.out.setRow (by have := HO0.out; omega) _⟩
      | false =>
        have hsd : (Tryz.prog.info? 105).map (·.size) = some (drwA h c3).toList.length := by rw [Array.length_toList]; exact sizeDrw h c3
        have Hsd := hid hsd
        clear hsd P1
        by_cases hv : v = 0
        · have d1 : (v != 0) = false := by simpa using hv
          have HRn : Hid (nzT h q (256 - (i + 1)) c3 = R) := hid (by rw [P3.out rfl hv, show 256 - (i + 1) = n by have := Hn.out; omega])
          clear hv P2 P3
          go_wp2_with fail
          go_roundw
          case rel => exact ⟨i + 1, c3, by omega, by go_num, HRn, HD3, HS3, HZ3, HU3, HT3⟩
          case measure => simp [intOf]; omega
        · have d1 : (v != 0) = true := by simpa using hv
          have hr : R = (v, c3, false) := P2.out rfl hv
          subst hr
          clear hv P2 P3
          go_wp2_with (first
            | (refine wpList_load_mid rfl 105 _ rfl b 0 rfl (drwA h c3).toList _ (src_drw HS3.out) Tryz.underlying105 rfl Hsd.out ?_; rw [Array.toArray_toList])
            | (refine wpList_store_rowTo rfl 105 _ _ rfl rfl o (drwA h c3) rfl rfl 105 (drwA zeroH 0) HZ3.out (sizeDrw _ _) (by rw [drwA_size, drwA_size]) (drwA_one _ _) ?_))
          refine bodyPost_ret (v := .tuple #[.agg (drwA h c3), .int .i64 v, .int .i64 0]) (results_row_tmp2 Tryz.results123 _ _ o 105 _ (0, 0) _ (by rfl) (HZ3.out.row _) Tryz.underlying105 rfl (sizeDrw _ _)) rfl ⟨by rw [HVr.out]; rfl, HU3.out.setRow (by have := HO0.out; omega) _⟩
    · obtain rfl : i = 256 := by omega
      have hr : R = (1, d, false) := HRi.out.symm
      subst hr
      have hsd : (Tryz.prog.info? 105).map (·.size) = some (drwA h d).toList.length := by rw [Array.length_toList]; exact sizeDrw h d
      have Hsd := hid hsd
      have l0 := HS.out.lt
      clear hsd
      go_wp2_with (first
        | (refine wpList_load_mid rfl 105 _ rfl b 0 rfl (drwA h d).toList _ (src_drw HS.out) Tryz.underlying105 rfl Hsd.out ?_; rw [Array.toArray_toList])
        | (refine wpList_store_rowTo rfl 105 _ _ rfl rfl o (drwA h d) rfl rfl 105 (drwA zeroH 0) HZ.out (sizeDrw _ _) (by rw [drwA_size, drwA_size]) (drwA_one _ _) ?_))
      refine bodyPost_ret (v := .tuple #[.agg (drwA h d), .int .i64 1, .int .i64 0]) (results_row_tmp2 Tryz.results123 _ _ o 105 _ (0, 0) _ (by rfl) (HZ.out.row _) Tryz.underlying105 rfl (sizeDrw _ _)) rfl ⟨by rw [HVr.out]; rfl, HU.out.setRow (by have := HO0.out; omega) _⟩
end Go.Proofs.YtoaomjdpiealfaaGreatDoor
namespace Go.Proofs.YtoaomjdpiealfaaGreatDoor
open Go.RowKit Go.Sp
set_option maxHeartbeats 2000000
set_option maxRecDepth 20000

/-- The text ahead of a source's seed. -/
def drawTag : ByteArray := { data := #[115, 112, 101, 99, 105, 101, 47, 100, 114, 97, 119] }

/-- What New returns. -/
def newV (xs : List Int) : Value := if xs.length ≤ 16384 then .tuple #[drw (tagB (txt drawTag) xs) 0, .int .i64 0] else .tuple #[drw zeroH 0, .int .i64 5]

end Go.Proofs.YtoaomjdpiealfaaGreatDoor
namespace Go.Proofs.YtoaomjdpiealfaaGreatDoor
open Go.RowKit Go.Sp
set_option maxHeartbeats 2000000
set_option maxRecDepth 20000

/-- The bytes of k blocks. -/
def catL (h : Nat → Int) (c : Int) : Nat → List Int
  | 0 => []
  | k + 1 => catL h c k ++ hList (shaB (posL h (c + k)))
theorem catL_length (h : Nat → Int) (c : Int) : ∀ k, (catL h c k).length = 32 * k
  | 0 => rfl
  | k + 1 => by rw [catL, List.length_append, catL_length h c k, hList_length]; omega

/-- How many blocks serve for n bytes. -/
def needB (n : Int) : Int := (n + 31) / 32
/-- The error of Bytes. -/
def bytE (c n : Int) : Int := if chkE c n 0 16384 = 0 then (if c + needB n ≤ 1099511627776 then 0 else 5) else chkE c n 0 16384
/-- The bytes that Bytes returns, and the source. -/
def bytL (h : Nat → Int) (c n : Int) : List Int := if bytE c n = 0 then (catL h c (needB n).toNat).take n.toNat else []
def bytD (h : Nat → Int) (c n : Int) : Value := if bytE c n = 0 then drw h (c + needB n) else drw zeroH 0

theorem own_grown {e : TypeId} {k : IntKind} {w w' : World} {base b : Nat} {v : Value} {xs : List Int} (h : OwnS e k w base v xs) (hg : w.grownBy w' (some b)) (hb : b < base) : OwnS e k w' base v xs := by
  refine ⟨h.1, ?_⟩
  rcases h.2 with h2 | ⟨g, cap, cur, h1, h2, h3, h4⟩
  · exact .inl h2
  · exact .inr ⟨g, cap, cur, h1, h2, by rw [hg.block g (Array.getElem?_eq_some_iff.1 h3).1 (by simp; omega)]; exact h3, h4⟩

theorem step_load_row {P : Program} {ops : Array Oper} {o : Oper} {a : Act} {w : World} {K : Act → World → Prop} {Q : Exit → Act → World → Prop} {E : Prop} (hgd : o.guard = none) (ty : TypeId) (x : Operand) (ho : o.op = .load ty x)
    (g : Nat) (hx : a.eval x = .pointer (some ⟨g, 0, none⟩)) (t : TypeId) (cs : Array Value) (fr : Nat × Nat) (d : TypeDesc) (hg : w.heap[g]? = some (.cells cs t fr))
    (hu : P.underlying ty = some d) (hd : (match d with | .struct _ | .array _ _ => true | _ => false) = true) (hi : (P.info? ty).map (·.size) = some cs.size)
    (h : K (a.put o.dst (.agg cs)) w) : if Region.wanted o (yielded ops a.tmps) = true then Oper.wp P o a w K Q else E := by
  have hw : Region.wanted o (yielded ops a.tmps) = true := by simp [Region.wanted, hgd]
  rw [if_pos hw]
  exact wp_load_row ty x ho g hx t cs fr d hg hu hd hi h

theorem grown_own (w : World) (o : Nat) (cs : Array Value) : w.grownBy (w.setRow o cs) (some o) := by
  have hz := below_setRow ((Up.refl w).below.mono (Nat.zero_le _)) (B := 0) (g := o) (Nat.zero_le _) cs
  exact ⟨hz.os, hz.tape, hz.output, hz.size, fun k _ hr => setRow_other w o k cs (fun e => hr (by rw [e]))⟩

theorem seq_cut {k : IntKind} {w : World} {a : Option Addr} {n cap m : Nat} {xs : List Int} (h : SeqAt k w (.slice a n cap) xs) (h2 : m ≤ n) : SeqAt k w (.slice a m m) (xs.take m) := by
  have hf := h.front h2
  obtain ⟨a', cap', hv, h3, h4, h5, hc⟩ := hf
  simp only [Value.slice.injEq] at hv
  obtain ⟨rfl, hm, rfl⟩ := hv
  refine ⟨a, m, by rw [← hm], by omega, by omega, fun e => ?_, hc⟩
  have := h5 e
  omega

theorem blk_range {w : World} {b : Nat} {t : TypeId} {cs : Array Value} (hb : Blk w b t cs) : w.rangeAt b 0 cs.toList := fun j v hv => by
  rw [Nat.zero_add, hb.read, ← hv, Array.getElem?_toList]

theorem op_store_row {P : Program} {o : Oper} {a : Act} {w : World} {K : Act → World → Prop} {Q : Exit → Act → World → Prop} (ty : TypeId) (x y : Operand) (ho : o.op = .store ty x y) (hd : o.dst = none)
    (g : Nat) (cells : Array Value) (hx : a.eval x = .pointer (some ⟨g, 0, none⟩)) (hy : a.eval y = .agg cells)
    (t : TypeId) (old : Array Value) (hg : w.heap[g]? = some (.cells old t (0, 0))) (hi : (P.info? ty).map (·.size) = some cells.size)
    (hold : old.size = cells.size) (h1 : cells.all (·.oneCell') = true)
    (h : K a (w.setRow g cells)) : o.wp P a w K Q := wp_store_row ty x y ho g cells hx hy t old hg hi hold h1 (by rw [hd]; exact h)

def BytOut (h : Nat → Int) (c n : Int) (w : World) (e : Ending) (w' : World) : Prop :=
  ∃ v, e = .returned (.tuple #[bytD h c n, v, .int .i64 (bytE c n)]) ∧ SeqAt .u8 w' v (bytL h c n) ∧ Up w w'

end Go.Proofs.YtoaomjdpiealfaaGreatDoor
namespace Go.Proofs.YtoaomjdpiealfaaGreatDoor
open Go.RowKit Go.Sp
set_option maxHeartbeats 4000000
set_option maxRecDepth 20000

theorem sizeTr (h : Nat → Int) (c : Int) : (Tryz.prog.info? 127).map (·.size) = some (drwA h c).size := by rw [drwA_size]; kernel_rfl
def trTag : ByteArray := { data := #[115, 112, 101, 99, 105, 101, 47, 116, 114, 97, 110, 115, 99, 114, 105, 112, 116] }
theorem trTag_txt : txt trTag = tagTr := by decide
def absTag : ByteArray := { data := #[115, 112, 101, 99, 105, 101, 47, 97, 98, 115, 111, 114, 98] }
theorem absTag_txt : txt absTag = tagAbsorb := by decide
def chTag : ByteArray := { data := #[115, 112, 101, 99, 105, 101, 47, 99, 104, 97, 108, 108, 101, 110, 103, 101] }
theorem chTag_txt : txt chTag = tagChal := by decide

theorem tNew_ok (s : ByteArray) (w : World) (hT : TabS w) (hs : Lab s) :
    Calls Tryz.prog 84 #[.string s] w fun e w' => e = .returned (.tuple #[drw (trNew (txt s)) 0, .int .i64 0]) ∧ Up w w' := by
  have HTg := hid (fun w' (v' : Value) (hU : Up w w') (hv' : SeqAt .u8 w' v' (txt s)) => Tagged_any trTag v' (txt s) w' (hT.up hU) (by decide) (by decide) hv' (by rw [txt_length]; have := hs.max; omega) (txt_byt s))
  rw [trTag_txt] at HTg
  have HV : Hid (trNew (txt s) = tagB tagTr (txt s)) := hid rfl
  have M1 := hid (fun w' => tvalid_ok s w' hs)
  generalize trNew (txt s) = H at *
  rw [← HV.out] at HTg
  have d2 : s.size ≤ 24 := hs.max
  have hcv := fun w' => run_bytes_of_string (P := Tryz.prog) w' 9 25 5 s Tryz.underlying9 Tryz.underlying25 Tryz.underlying5
  clear hT hs HV
  obtain ⟨o, ho⟩ : ∃ o, w.heap.size = o := ⟨_, rfl⟩
  have HO := hid ho
  clear ho
  go_enter Tryz.func84, Tryz.ntmps84
  have hZ := Blk.new (w := w) (t := 127) (g := o) HO.out zero33
  have HZ := hid hZ
  clear hZ
  go_wp2_with fail
  refine (M1.out _).mono ?_
  rintro e w1 ⟨rfl, hU1⟩
  have HZ1 := hid (HZ.out.up hU1)
  have HU1 := hid (((Up.refl w).alloc _).trans hU1)
  rw [HO.out]
  clear hU1 HZ
  go_wp2_with fail
  refine (HTg.out _ _ ((HU1.out.alloc _).drew) (seq_text_at s _ _ _ rfl cap_ge (cap_le (by omega)))).mono ?_
  rintro e w2 ⟨rfl, hU2⟩
  have HZ2 := hid (((HZ1.out.alloc _).up (Up.refl _).drew).up hU2)
  have HU2 := hid (((HU1.out.alloc _).drew).trans hU2)
  clear hU2 HZ1 HU1 hcv
  have l0 := HZ2.out.lt
  unfold hashV
  go_wp2_with (first
    | (refine wpList_store_rowTo rfl 55 _ _ rfl rfl _ _ rfl rfl 55 _ (heap_alloc_new _ _) (by rw [arrK_size]; kernel_rfl) (by rw [arrK_size]; rfl) arrK_one ?_; rw [World.setRow_alloc_new])
    | (refine wpList_load_row rfl 55 _ rfl w2.heap.size rfl 55 (arrK .u8 H 32) (0, 0) _ (Blk.new rfl rfl) Tryz.underlying55 rfl (by rw [arrK_size]; kernel_rfl) ?_)
    | (refine wpList_buildTo rfl 127 _ rfl _ rfl (drwA H 0) (by kernel_rfl) ?_)
    | (refine wpList_store_rowTo rfl 127 _ _ rfl rfl o (drwA H 0) rfl rfl 127 (drwA zeroH 0) (HZ2.out.alloc _) (sizeTr _ _) (by rw [drwA_size, drwA_size]) (drwA_one _ _) ?_))
  refine bodyPost_ret (v := .tuple #[.agg (drwA H 0), .int .i64 0]) (results_row_tmp Tryz.results84 _ _ o 127 _ (0, 0) _ (by rfl) ((HZ2.out.alloc _).row _) Tryz.underlying127 rfl (sizeTr _ _)) rfl ⟨rfl, (HU2.out.alloc _).setRow (by have := HO.out; omega) _⟩

theorem tAbsorb_ok (h : Nat → Int) (c : Int) (s : ByteArray) (k n : Int) (b l : Value) (es : List Int) (w : World) (hT : TabS w) (hB : Byt h) (c0 : 0 ≤ c) (c1 : c < 1000) (hs : Lab s) (hq : ItmAt w 6 k n b l es) (hl : es.length ≤ 16000) (hes : ∀ x ∈ es, 0 ≤ x ∧ x ≤ 255) :
    Calls Tryz.prog 151 #[drw h c, .string s, itm k n b l] w fun e w' => e = .returned (.tuple #[drw (absB h (txt s) es) (c + 1), .int .i64 0]) ∧ Up w w' := by
  have HV : Hid (absB h (txt s) es = tagB (txt absTag) (frameE h (txt s) [es])) := hid (by rw [absTag_txt]; rfl)
  have M1 := hid (fun w' => tValid_ok h c w' c0 (by omega))
  have M2 := hid (fun w' => tvalid_ok s w' hs)
  have M3 := hid (fun w' (g0 : Nat) (hU : Up w w') (hc : ItmCells w' g0 0 k n b l) => thash_one absTag h c s g0 ⟨k, n, b, l⟩ es w' (hT.up hU) hB (by decide) (by decide) hs hc (hq.up hU) hl hes)
  rw [← HV.out] at M3
  generalize absB h (txt s) es = H at *
  obtain ⟨⟨ba, bn, bc, rfl⟩, la, ln, lc, rfl⟩ := itm_shape hq
  have hctr := drwA_ctr h c
  have HCt := hid hctr
  have HSz := hid (sizeTr h c)
  unfold drw at M1 M3 ⊢
  generalize drwA h c = cs at *
  have dc : (c == 1000) = false := by simp; omega
  have hwr : IntKind.i64.wrap (c + 1) = c + 1 := IntWalk.i64_in _ (by omega)
  clear hT hB hs hq hl hes HV hctr
  obtain ⟨o, ho⟩ : ∃ o, w.heap.size = o := ⟨_, rfl⟩
  have HO := hid ho
  obtain ⟨o1, ho1⟩ : ∃ o1, o + 1 = o1 := ⟨_, rfl⟩
  have HO1 := hid ho1
  obtain ⟨o2, ho2⟩ : ∃ o2, o1 + 1 = o2 := ⟨_, rfl⟩
  have HO2 := hid ho2
  clear ho ho1 ho2
  go_enter Tryz.func151, Tryz.ntmps151
  have hB0 := Blk.new (w := w) (t := 127) (cs := cs) (g := w.heap.size) rfl rfl
  go_wp2_with (refine wpList_load_row rfl 127 _ rfl w.heap.size rfl 127 cs (0, 0) _ ((hB0.alloc _).alloc _) Tryz.underlying127 rfl HSz.out ?_)
  refine (M1.out _).mono ?_
  rintro e w1 ⟨rfl, hU1⟩
  have HS1 := hid (((Blk.new (w := w) (t := 127) (cs := cs) (g := o) HO.out rfl).up (((Up.refl _).alloc _).alloc _)).up hU1)
  have HI1 := hid (((Blk.new (g := o1) (t := 142) (by have := HO.out; have := HO1.out; simp; omega) rfl).up ((Up.refl _).alloc _)).up hU1)
  have HZ1 : Hid (Blk w1 o2 127 (drwA zeroH 0)) := hid ((Blk.new (g := o2) (t := 127) (by have := HO.out; have := HO1.out; have := HO2.out; simp; omega) zero33).up hU1)
  have HU1 := hid (((((Up.refl w).alloc _).alloc _).alloc _).trans hU1)
  rw [HO.out, HO1.out, HO2.out]
  clear hU1 hB0
  go_wp2_with fail
  refine (M2.out _).mono ?_
  rintro e w2 ⟨rfl, hU2⟩
  have HS2 := hid (HS1.out.up hU2)
  have HI2 := hid (HI1.out.up hU2)
  have HZ2 := hid (HZ1.out.up hU2)
  have HU2 := hid (HU1.out.trans hU2)
  clear hU2 HS1 HI1 HZ1 HU1
  have i0 := HI2.out.val (i := 0) rfl
  have i1 := HI2.out.val (i := 1) rfl
  have i2 := HI2.out.val (i := 2) rfl
  have i3 := HI2.out.val (i := 3) rfl
  go_wp2_with (refine wpList_load_row rfl 127 _ rfl o rfl 127 cs (0, 0) _ HS2.out Tryz.underlying127 rfl HSz.out ?_)
  refine (M3.out _ w2.heap.size (HU2.out.alloc _) (itm_new rfl)).mono ?_
  rintro e w3 ⟨rfl, hU3⟩
  have hU3 := ((Up.refl w2).alloc _).trans hU3
  have HS3 := hid (HS2.out.up hU3)
  have HZ3 := hid (HZ2.out.up hU3)
  have HU3 := hid (HU2.out.trans hU3)
  clear hU3 HS2 HI2 HZ2 HU2 i0 i1 i2 i3
  have q32 : w3.cell? ⟨o, 32, none⟩ = some (.int .i64 c) := HS3.out.val HCt.out
  have l0 := HS3.out.lt
  have l1 := HZ3.out.lt
  unfold hashV
  go_wp2_with (first
    | (refine wpList_store_rowTo rfl 55 _ _ rfl rfl _ _ rfl rfl 55 _ (heap_alloc_new _ _) (by rw [arrK_size]; kernel_rfl) (by rw [arrK_size]; rfl) arrK_one ?_; rw [World.setRow_alloc_new])
    | (refine wpList_load_row rfl 55 _ rfl w3.heap.size rfl 55 (arrK .u8 H 32) (0, 0) _ (Blk.new rfl rfl) Tryz.underlying55 rfl (by rw [arrK_size]; kernel_rfl) ?_)
    | (refine wpList_buildTo rfl 127 _ rfl _ rfl (drwA H (c + 1)) (by kernel_rfl) ?_)
    | (refine wpList_store_rowTo rfl 127 _ _ rfl rfl o2 (drwA H (c + 1)) rfl rfl 127 (drwA zeroH 0) (HZ3.out.alloc _) (sizeTr _ _) (by rw [drwA_size, drwA_size]) (drwA_one _ _) ?_))
  refine bodyPost_ret (v := .tuple #[.agg (drwA H (c + 1)), .int .i64 0]) (results_row_tmp Tryz.results151 _ _ o2 127 _ (0, 0) _ (by rfl) ((HZ3.out.alloc _).row _) Tryz.underlying127 rfl (sizeTr _ _)) rfl ⟨rfl, (HU3.out.alloc _).setRow (by have := HO.out; have := HO1.out; have := HO2.out; omega) _⟩
end Go.Proofs.YtoaomjdpiealfaaGreatDoor
