/- Package draw: Bytes. Package transcript: New, Absorb, Ints, Challenge. Package transcript: lists of integers; challenges. Package signature: the writer of a transcript. -/
import Derived.Test.YtdlcmpbpdbpanaaDoorMB18
import Derived.Test.YtdlcmpbpdbpanaaDoorMB17
namespace Go.Proofs.YtdlcmpbpdbpanaaDoor
open Go.RowKit Go.Sp
set_option maxHeartbeats 2000000
set_option maxRecDepth 20000

/-- The bytes of k blocks. -/
def catL (h : Nat → Int) (c : Int) : Nat → List Int
  | 0 => []
  | k + 1 => catL h c k ++ hList (shaB (posL h (c + k)))
theorem catL_length (h : Nat → Int) (c : Int) : ∀ k, (catL h c k).length = 32 * k
  | 0 => rfl
  | k + 1 => by rw [catL, List.length_append, catL_length h c k, hList_length]; omega

/-- How many blocks serve for n bytes. -/
def needB (n : Int) : Int := (n + 31) / 32
/-- The error of Bytes. -/
def bytE (c n : Int) : Int := if chkE c n 0 16384 = 0 then (if c + needB n ≤ 1099511627776 then 0 else 5) else chkE c n 0 16384
/-- The bytes that Bytes returns, and the source. -/
def bytL (h : Nat → Int) (c n : Int) : List Int := if bytE c n = 0 then (catL h c (needB n).toNat).take n.toNat else []
def bytD (h : Nat → Int) (c n : Int) : Value := if bytE c n = 0 then drw h (c + needB n) else drw zeroH 0

theorem own_grown {e : TypeId} {k : IntKind} {w w' : World} {base b : Nat} {v : Value} {xs : List Int} (h : OwnS e k w base v xs) (hg : w.grownBy w' (some b)) (hb : b < base) : OwnS e k w' base v xs := by
  refine ⟨h.1, ?_⟩
  rcases h.2 with h2 | ⟨g, cap, cur, h1, h2, h3, h4⟩
  · exact .inl h2
  · exact .inr ⟨g, cap, cur, h1, h2, by rw [hg.block g (Array.getElem?_eq_some_iff.1 h3).1 (by simp; omega)]; exact h3, h4⟩

theorem step_load_row {P : Program} {ops : Array Oper} {o : Oper} {a : Act} {w : World} {K : Act → World → Prop} {Q : Exit → Act → World → Prop} {E : Prop} (hgd : o.guard = none) (ty : TypeId) (x : Operand) (ho : o.op = .load ty x)
    (g : Nat) (hx : a.eval x = .pointer (some ⟨g, 0, none⟩)) (t : TypeId) (cs : Array Value) (fr : Nat × Nat) (d : TypeDesc) (hg : w.heap[g]? = some (.cells cs t fr))
    (hu : P.underlying ty = some d) (hd : (match d with | .struct _ | .array _ _ => true | _ => false) = true) (hi : (P.info? ty).map (·.size) = some cs.size)
    (h : K (a.put o.dst (.agg cs)) w) : if Region.wanted o (yielded ops a.tmps) = true then Oper.wp P o a w K Q else E := by
  have hw : Region.wanted o (yielded ops a.tmps) = true := by simp [Region.wanted, hgd]
  rw [if_pos hw]
  exact wp_load_row ty x ho g hx t cs fr d hg hu hd hi h

theorem grown_own (w : World) (o : Nat) (cs : Array Value) : w.grownBy (w.setRow o cs) (some o) := by
  have hz := below_setRow ((Up.refl w).below.mono (Nat.zero_le _)) (B := 0) (g := o) (Nat.zero_le _) cs
  exact ⟨hz.os, hz.tape, hz.output, hz.size, fun k _ hr => setRow_other w o k cs (fun e => hr (by rw [e]))⟩

theorem seq_cut {k : IntKind} {w : World} {a : Option Addr} {n cap m : Nat} {xs : List Int} (h : SeqAt k w (.slice a n cap) xs) (h2 : m ≤ n) : SeqAt k w (.slice a m m) (xs.take m) := by
  have hf := h.front h2
  obtain ⟨a', cap', hv, h3, h4, h5, hc⟩ := hf
  simp only [Value.slice.injEq] at hv
  obtain ⟨rfl, hm, rfl⟩ := hv
  refine ⟨a, m, by rw [← hm], by omega, by omega, fun e => ?_, hc⟩
  have := h5 e
  omega

theorem blk_range {w : World} {b : Nat} {t : TypeId} {cs : Array Value} (hb : Blk w b t cs) : w.rangeAt b 0 cs.toList := fun j v hv => by
  rw [Nat.zero_add, hb.read, ← hv, Array.getElem?_toList]

theorem op_store_row {P : Program} {o : Oper} {a : Act} {w : World} {K : Act → World → Prop} {Q : Exit → Act → World → Prop} (ty : TypeId) (x y : Operand) (ho : o.op = .store ty x y) (hd : o.dst = none)
    (g : Nat) (cells : Array Value) (hx : a.eval x = .pointer (some ⟨g, 0, none⟩)) (hy : a.eval y = .agg cells)
    (t : TypeId) (old : Array Value) (hg : w.heap[g]? = some (.cells old t (0, 0))) (hi : (P.info? ty).map (·.size) = some cells.size)
    (hold : old.size = cells.size) (h1 : cells.all (·.oneCell') = true)
    (h : K a (w.setRow g cells)) : o.wp P a w K Q := wp_store_row ty x y ho g cells hx hy t old hg hi hold h1 (by rw [hd]; exact h)

def BytOut (h : Nat → Int) (c n : Int) (w : World) (e : Ending) (w' : World) : Prop :=
  ∃ v, e = .returned (.tuple #[bytD h c n, v, .int .i64 (bytE c n)]) ∧ SeqAt .u8 w' v (bytL h c n) ∧ Up w w'

theorem Bytes_any (h : Nat → Int) (c n : Int) (w : World) (hT : TabS w) (hB : Byt h) :
    Calls Tryd.prog 16 #[drw h c, .int .i64 n] w (BytOut h c n w) := by
  have HT := hid hT
  have HB := hid hB
  obtain ⟨E, hE⟩ : ∃ E, chkE c n 0 16384 = E := ⟨_, rfl⟩
  have HE := hid hE
  clear hT hB
  have HC := hid (fun w' => check_draw_any h c n 0 16384 w')
  rw [hE] at HC
  clear hE
  unfold drw at HC ⊢
  go_enter Tryd.func16, Tryd.ntmps16
  have hB0 := Blk.new (w := w) (t := 25) (cs := drwA h c) rfl rfl
  have hB1 := Blk.new (w := w.alloc (.cells (drwA h c) 25)) (t := 25) (g := w.heap.size + 1) (by simp) zero33
  go_wp2_with (refine wpList_load_row rfl 25 _ rfl w.heap.size rfl 25 (drwA h c) (0, 0) _ (hB0.alloc _) Tryd.underlying25 rfl (sizeDrw _ _) ?_)
  refine (HC.out _).mono ?_
  rintro e w1 ⟨rfl, hU1⟩
  have HB0 := hid ((hB0.alloc _).up hU1)
  have HB1 := hid (hB1.up hU1)
  have HU1 := hid ((((Up.refl w).alloc _).alloc _).trans hU1)
  clear hU1 hB0 hB1 HC
  obtain ⟨o, ho⟩ : ∃ o, w.heap.size = o := ⟨_, rfl⟩
  have HOo := hid ho
  clear ho
  by_cases h0 : E = 0
  case neg =>
    have d1 : (E != 0) = true := by simpa using h0
    have HVr : Hid (bytD h c n = drw zeroH 0 ∧ bytE c n = E ∧ bytL h c n = []) := hid (by
      have : bytE c n = E := by rw [bytE, HE.out, if_neg h0]
      exact ⟨by rw [bytD, this, if_neg h0], this, by rw [bytL, this, if_neg h0]⟩)
    clear h0
    rw [HOo.out] at HB1
    rw [HOo.out]
    go_wp2_with (refine wpList_store_rowTo rfl 25 _ _ rfl rfl (o + 1) (drwA zeroH 0) ?_ ?_ 25 (drwA zeroH 0) ?_ ?_ ?_ ?_ ?_)
    · rfl
    · exact (congrArg Value.agg zero33)
    · exact HB1.out
    · exact sizeDrw _ _
    · rfl
    · exact drwA_one _ _
    refine bodyPost_ret (v := .tuple #[.agg (drwA zeroH 0), .slice none 0 0, .int .i64 E]) (results_row_tmp2 Tryd.results16 _ _ (o + 1) 25 _ (0, 0) _ (by rfl) (HB1.out.row _) Tryd.underlying25 rfl (sizeDrw _ _)) rfl ⟨.slice none 0 0, by rw [HVr.out.1, HVr.out.2.1]; rfl, by rw [HVr.out.2.2]; exact seq_none, HU1.out.setRow (by have := HOo.out; omega) _⟩
  have hk := chk_iff.1 (HE.out.trans h0)
  have HK := hid hk
  have HEr : Hid (bytE c n = if c + needB n ≤ 1099511627776 then 0 else 5) := hid (by rw [bytE, if_pos (HE.out.trans h0)])
  subst h0
  clear hk HE
  go_wp2_with (first
    | (refine wpList_load_row rfl 25 _ rfl w.heap.size rfl 25 (drwA h c) (0, 0) _ HB0.out Tryd.underlying25 rfl (sizeDrw _ _) ?_)
    | (refine wpList_buildTo rfl 110 _ rfl _ rfl (srcA h c false) (by kernel_rfl) ?_))
  have ho := HOo.out
  have l1 := HB1.out.lt
  have HS2 : Hid (Blk (w1.alloc (.cells (srcA h c false) 110)) w1.heap.size 110 (srcA h c false)) := hid (Blk.new rfl rfl)
  have HO2 := hid (HB0.out.alloc (.cells (srcA h c false) 110))
  have HZ2 := hid (HB1.out.alloc (.cells (srcA h c false) 110))
  have HU2 := hid (HU1.out.alloc (.cells (srcA h c false) 110))
  have HT2 := hid (HT.out.up HU2.out)
  have hsb : w1.heap.size < (w1.alloc (.cells (srcA h c false) 110)).heap.size := by simp
  obtain ⟨b, hb⟩ : ∃ b, w1.heap.size = b := ⟨_, rfl⟩
  obtain ⟨w2, hw2⟩ : ∃ w2, w1.alloc (.cells (srcA h c false) 110) = w2 := ⟨_, rfl⟩
  rw [hb, hw2] at HS2 hsb
  rw [ho, hw2] at HO2 HZ2
  rw [hw2] at HU2 HT2
  have hob : o + 1 < b := by rw [← ho, ← hb]; exact l1
  have HC2 : Hid (c = c + ((0 : Nat) : Int) ∧ 32 * ((0 : Nat) : Int) - 32 < n) := hid ⟨by simp, by have := HK.out.2.1; simp; omega⟩
  rw [ho, hb, hw2]
  obtain ⟨o1, ho1⟩ : ∃ o1, o + 1 = o1 := ⟨_, rfl⟩
  have HO1 := hid ho1
  rw [ho1] at HZ2 hob
  rw [ho1]
  have hoo : o < o1 := by omega
  clear ho ho1 hb hw2 l1 HB0 HB1 HU1
  have hn1 : n ≤ 16384 := HK.out.2.2
  go_loopw [9] (fun vo wr => ∃ (k : Nat) (d : Int) (g : Bool) (p : Option Addr) (m cp : Nat) (L : List Int), vo = .slice p m cp ∧ Hid (m = 32 * k ∧ L.length = m ∧ 32 * (k : Int) - 32 < n) ∧ m ≤ 16416 ∧ Hid (OwnS 5 .u8 wr (b + 1) (.slice p m cp) L) ∧ Hid (0 ≤ d ∧ d ≤ 1099511627776) ∧ Hid (g = false → d = c + k ∧ L = catL h c k) ∧ Hid (g = true → d = 1099511627776 ∧ c + needB n > 1099511627776) ∧ b < wr.heap.size ∧ Hid (Blk wr b 110 (srcA h d g)) ∧ Hid (Blk wr o 25 (drwA h c)) ∧ Hid (Blk wr o1 25 (drwA zeroH 0)) ∧ Hid (Up w wr) ∧ Hid (TabS wr)) (fun vo _ => 16448 - lenOf vo)
  case atStart => exact ⟨0, c, false, none, 0, 0, [], rfl, hid ⟨rfl, rfl, HC2.out.2⟩, by omega, hid own_none, hid HK.out.1, hid (fun _ => ⟨HC2.out.1, rfl⟩), hid (fun h => by cases h), hsb, HS2, HO2, HZ2, HU2, HT2⟩
  case round =>
    clear HS2 HO2 HZ2 HU2 HT2 HC2 hsb
    obtain ⟨k, d, g, p, m, cp, L, rfl, HM, hm, HO, HD, HGf, HGt, hbs, HS, HBo, HZ, HU, HTr⟩ := hrel
    obtain ⟨hm1, hm2, hm3⟩ := HM.out
    by_cases hlt : (m : Int) < n
    · have dl : decide ((m : Int) < n) = true := by simpa using hlt
      cases g with
      | true =>
        have f0 := HS.out.val (srcA_full h d true)
        have hgt := HGt.out rfl
        have HEr5 : Hid (bytE c n = 5) := hid (by rw [HEr.out, if_neg (by omega)])
        have HVr : Hid (bytD h c n = drw zeroH 0 ∧ bytL h c n = []) := hid ⟨by rw [bytD, HEr5.out, if_neg (by decide)], by rw [bytL, HEr5.out, if_neg (by decide)]⟩
        have HRs := hid (fun w' hb => result_any h d true b w' hb)
        clear hgt hm1 hm2 hm3 HM HGt HGf
        go_wp2_with fail
        refine (HRs.out _ HS.out).mono ?_
        rintro e w3 ⟨rfl, hU3⟩
        have HBo3 := hid (HBo.out.up hU3)
        have HZ3 := hid (HZ.out.up hU3)
        have HU3 := hid (HU.out.trans hU3)
        clear hU3 HBo HZ HU HS HRs
        have l3 := HZ3.out.lt
        rw [show (bif true then drw zeroH 0 else drw h d) = .agg (drwA zeroH 0) from rfl, show (bif true then (5 : Int) else 0) = 5 from rfl]
        go_wp2_with (first
          | (refine wpList_store_rowTo rfl 25 _ _ rfl rfl o (drwA zeroH 0) rfl rfl 25 (drwA h c) HBo3.out (sizeDrw _ _) (by rw [drwA_size, drwA_size]) (drwA_one _ _) ?_)
          | (refine wpList_store_rowTo rfl 25 _ _ rfl rfl o1 (drwA zeroH 0) ?_ ?_ 25 (drwA zeroH 0) ?_ ?_ ?_ ?_ ?_))
        · rfl
        · exact (congrArg Value.agg zero33)
        · exact HZ3.out.rowApart (by omega) _
        · exact sizeDrw _ _
        · rfl
        · exact drwA_one _ _
        refine bodyPost_ret (v := .tuple #[.agg (drwA zeroH 0), .slice none 0 0, .int .i64 5]) (results_row_tmp2 Tryd.results16 _ _ o1 25 _ (0, 0) _ (by rfl) ((HZ3.out.rowApart (by omega) _).row _) Tryd.underlying25 rfl (sizeDrw _ _)) rfl ⟨.slice none 0 0, by rw [HVr.out.1, HEr5.out]; rfl, by rw [HVr.out.2]; exact seq_none, (HU3.out.setRow (by have := HOo.out; omega) _).setRow (by have := HOo.out; have := HO1.out; omega) _⟩
      | false =>
        have f0 := HS.out.val (srcA_full h d false)
        have hd := HGf.out rfl
        have HR : Hid (∀ g', g' = blkF d false → ((g' = false → blkC d = c + ((k + 1 : Nat) : Int) ∧ L ++ hList (blkB h d) = catL h c (k + 1)) ∧ (g' = true → blkC d = 1099511627776 ∧ c + needB n > 1099511627776))) := hid (by
          rintro _ rfl
          by_cases hx : d = 1099511627776
          · rw [blkF, if_pos hx, blkC, if_pos hx]
            refine ⟨fun h => by (cases h), fun _ => ⟨hx, ?_⟩⟩
            unfold needB
            omega
          · rw [blkF, if_neg hx, blkC, if_neg hx, blkB, if_neg hx]
            refine ⟨fun _ => ⟨by have := hd.1; simp; omega, ?_⟩, fun h => by (cases h)⟩
            rw [hd.2, catL, hd.1])
        have HCr : Hid (0 ≤ blkC d ∧ blkC d ≤ 1099511627776) := hid (by
          have := HD.out
          unfold blkC
          split <;> omega)
        clear hd HGf HGt
        have hm16 : m ≤ 16384 := by omega
        have HLm : Hid (L.length = m) := hid hm2
        have HM2 : Hid (m + 32 = 32 * (k + 1) ∧ 32 * ((k + 1 : Nat) : Int) - 32 < n ∧ m + 32 ≤ 16416) := hid ⟨by omega, by omega, by omega⟩
        clear hm1 hm2 hm3 HM hm
        go_wp2_with fail
        refine (block_any h d false b _ HTr.out HB.out HS.out HD.out.1 HD.out.2).mono ?_
        rintro e w3 ⟨rfl, hS3, hg3⟩
        have HO3 := hid (own_grown HO.out hg3 (by omega))
        have HBo3 := hid (Blk.grownOut HBo.out hg3 (by omega))
        have HZ3 := hid (Blk.grownOut HZ.out hg3 (by omega))
        have HU3 := hid (Up.grownNew HU.out hg3 (by have := HOo.out; omega))
        have HT3 := hid (HTr.out.grown HS.out hg3)
        have HS3 := hid hS3
        have l3 := hS3.lt
        clear hS3 hg3 HO HBo HZ HU HTr HS f0
        generalize blkC d = d2 at *
        generalize blkF d false = g2 at *
        have HR2 := hid (HR.out _ rfl)
        clear HR
        obtain ⟨Y, hY⟩ : ∃ Y, blkB h d = Y := ⟨_, rfl⟩
        rw [hY] at HR2
        rw [hY]
        clear hY
        unfold hashV
        go_wp2_with (first
          | (refine wpList_store_rowTo rfl 23 _ _ rfl rfl _ _ rfl rfl 23 _ (heap_alloc_new _ _) (by rw [arrK_size]; kernel_rfl) (by rw [arrK_size]; rfl) arrK_one ?_; rw [World.setRow_alloc_new])
          | (at_builtin; refine wp_app infoU8 Tryd.underlying31 (by omega) rfl _ _ rfl (b + 1) rfl rfl (HO3.out.up ((Up.refl w3).alloc _)) (seedAt (h := Y) (Blk.new (cs := arrK .u8 Y 32) rfl rfl) (fun i hi => arrK_get hi)) (by have := HLm.out; simp [hList_length]; omega) (by simp; omega) ?_; intro v4 w4 hO4 hg4))
        have hb4 := below_own (HO3.out.up ((Up.refl w3).alloc (.cells (arrK .u8 Y 32) 23))) hg4 (by simp; omega)
        have HS4 := hid ((HS3.out.alloc _).below hb4 (by omega))
        have HBo4 := hid ((HBo3.out.alloc _).below hb4 (by omega))
        have HZ4 := hid ((HZ3.out.alloc _).below hb4 (by omega))
        have HU4 := hid ((HU3.out.alloc _).own (HO3.out.up ((Up.refl w3).alloc _)) hg4 (by have := HOo.out; omega))
        have HT4 := hid (HT.out.up HU4.out)
        have hbs4 := HS4.out.lt
        have HLm2 : Hid ((L ++ hList Y).length = m + 32) := hid (by rw [List.length_append, HLm.out, hList_length])
        obtain ⟨p4, k4, rfl, _, _⟩ := hO4.shape
        rw [HLm2.out] at hO4
        rw [HLm2.out]
        have HO4 := hid hO4
        clear hO4 hg4 hb4 HO3 HS3 HBo3 HZ3 HU3 HT3 l3
        go_wp2_with fail
        go_roundw
        case rel => exact ⟨k + 1, d2, g2, p4, m + 32, k4, L ++ hList Y, rfl, hid ⟨HM2.out.1, HLm2.out, HM2.out.2.1⟩, HM2.out.2.2, HO4, HCr, hid HR2.out.1, hid HR2.out.2, hbs4, HS4, HBo4, HZ4, HU4, HT4⟩
        case measure => simp; omega
    · have dl : decide ((m : Int) < n) = false := by simpa using hlt
      cases g with
      | true =>
        have hgt := HGt.out rfl
        have HEr5 : Hid (bytE c n = 5) := hid (by rw [HEr.out, if_neg (by omega)])
        have HVr : Hid (bytD h c n = drw zeroH 0 ∧ bytL h c n = []) := hid ⟨by rw [bytD, HEr5.out, if_neg (by decide)], by rw [bytL, HEr5.out, if_neg (by decide)]⟩
        have HRs := hid (fun w' hb => result_any h d true b w' hb)
        clear hgt hm1 hm2 hm3 HM HGt HGf
        go_wp2_with fail
        refine (HRs.out _ HS.out).mono ?_
        rintro e w3 ⟨rfl, hU3⟩
        have HBo3 := hid (HBo.out.up hU3)
        have HZ3 := hid (HZ.out.up hU3)
        have HU3 := hid (HU.out.trans hU3)
        clear hU3 HBo HZ HU HS HRs
        have l3 := HZ3.out.lt
        rw [show (bif true then drw zeroH 0 else drw h d) = .agg (drwA zeroH 0) from rfl, show (bif true then (5 : Int) else 0) = 5 from rfl]
        go_wp2_with (first
          | (refine wpList_store_rowTo rfl 25 _ _ rfl rfl o (drwA zeroH 0) rfl rfl 25 (drwA h c) HBo3.out (sizeDrw _ _) (by rw [drwA_size, drwA_size]) (drwA_one _ _) ?_)
          | (refine wpList_store_rowTo rfl 25 _ _ rfl rfl o1 (drwA zeroH 0) ?_ ?_ 25 (drwA zeroH 0) ?_ ?_ ?_ ?_ ?_))
        · rfl
        · exact (congrArg Value.agg zero33)
        · exact HZ3.out.rowApart (by omega) _
        · exact sizeDrw _ _
        · rfl
        · exact drwA_one _ _
        refine bodyPost_ret (v := .tuple #[.agg (drwA zeroH 0), .slice none 0 0, .int .i64 5]) (results_row_tmp2 Tryd.results16 _ _ o1 25 _ (0, 0) _ (by rfl) ((HZ3.out.rowApart (by omega) _).row _) Tryd.underlying25 rfl (sizeDrw _ _)) rfl ⟨.slice none 0 0, by rw [HVr.out.1, HEr5.out]; rfl, by rw [HVr.out.2]; exact seq_none, (HU3.out.setRow (by have := HOo.out; omega) _).setRow (by have := HOo.out; have := HO1.out; omega) _⟩
      | false =>
        have hd := HGf.out rfl
        have hk : needB n = (k : Int) := by unfold needB; omega
        have HEr0 : Hid (bytE c n = 0) := hid (by rw [HEr.out, if_pos (by have := HD.out.2; omega)])
        have HVr : Hid (bytD h c n = drw h d ∧ bytL h c n = L.take n.toNat) := hid ⟨by rw [bytD, HEr0.out, if_pos rfl, hk, hd.1], by rw [bytL, HEr0.out, if_pos rfl, hk, hd.2, Int.toNat_natCast]⟩
        have HRs := hid (fun w' hb => result_any h d false b w' hb)
        have hn0 : 0 ≤ n := HK.out.2.1
        have hcap : m ≤ cp := by
          obtain ⟨_, _, hv, hl, _⟩ := HO.out.seq.shape
          simp only [Value.slice.injEq] at hv
          omega
        clear hd hk hm1 hm2 hm3 HM HGt HGf
        go_wp2_with fail
        refine (HRs.out _ HS.out).mono ?_
        rintro e w3 ⟨rfl, hU3⟩
        have HBo3 := hid (HBo.out.up hU3)
        have HZ3 := hid (HZ.out.up hU3)
        have HO3 := hid (HO.out.up hU3)
        have HU3 := hid (HU.out.trans hU3)
        clear hU3 HBo HZ HO HU HS HRs
        have l3 := HZ3.out.lt
        rw [show (bif false then drw zeroH 0 else drw h d) = .agg (drwA h d) from rfl, show (bif false then (5 : Int) else 0) = 0 from rfl]
        go_wp2_with (refine wpList_store_rowTo rfl 25 _ _ rfl rfl o (drwA h d) rfl rfl 25 (drwA h c) HBo3.out (sizeDrw _ _) (by rw [drwA_size, drwA_size]) (drwA_one _ _) ?_)
        have HB4 : Hid (Blk (w3.setRow o (drwA h d)) o 25 (drwA h d)) := hid (HBo3.out.row _)
        have HZ4 := hid (HZ3.out.rowApart (k := o) (by omega) (drwA h d))
        have HO4 := hid (own_grown HO3.out (grown_own w3 o (drwA h d)) (by omega))
        have HU4 := hid (HU3.out.setRow (g := o) (by have := HOo.out; omega) (drwA h d))
        generalize w3.setRow o (drwA h d) = w4 at *
        clear HBo3 HZ3 HO3 HU3 l3
        have b0 : (0 : Int) ≤ n := hn0
        have b1 : n ≤ (cp : Int) := by omega
        refine region_E (fun w' => Blk w' o 25 (drwA h d)) 7 (by kernel_rfl) (HB4.out.up (Up.refl _).drew) fun hS => ?_
        refine anyE_take (i := 1) (v := ?_) 48 rfl rfl (by kernel_rfl) (by kernel_rfl) (by decide) (fun _ _ _ h => h) (by kernel_rfl) (by kernel_rfl) (.inl ⟨by rfl, fun u hu => ?_⟩) hS ?_
        rotate_left
        · (go_simp; first | done | with_reducible rfl)
        simp only [Act.put, List.setIfInBounds_toArray, List.set_cons_zero, List.set_cons_succ]
        refine anyE_take (i := 2) (v := ?_) 49 rfl rfl (by kernel_rfl) (by kernel_rfl) (by decide) (fun _ _ _ h => h) (by kernel_rfl) (by kernel_rfl) (.inl ⟨by rfl, fun u hu => ?_⟩) hS ?_
        rotate_left
        · (go_simp; first | done | with_reducible rfl)
        simp only [Act.put, List.setIfInBounds_toArray, List.set_cons_zero, List.set_cons_succ]
        refine anyE_take (i := 3) (v := ?_) 50 rfl rfl (by kernel_rfl) (by kernel_rfl) (by decide) (fun _ _ _ h => h) (by kernel_rfl) (by kernel_rfl) (.inl ⟨by rfl, fun u hu => ?_⟩) hS ?_
        rotate_left
        · (go_simp; first | done | with_reducible rfl)
        simp only [Act.put, List.setIfInBounds_toArray, List.set_cons_zero, List.set_cons_succ]
        refine anyE_take (i := 4) (v := ?_) 51 rfl rfl (by kernel_rfl) (by kernel_rfl) (by decide) (fun _ _ _ h => h) (by kernel_rfl) (by kernel_rfl) (.inl ⟨by rfl, fun u hu => ?_⟩) hS ?_
        rotate_left
        · (go_simp; first | done | with_reducible rfl)
        simp only [Act.put, List.setIfInBounds_toArray, List.set_cons_zero, List.set_cons_succ]
        refine anyE_take (i := 0) (v := .agg (drwA h d).toList.toArray) 47 rfl rfl (by kernel_rfl) (by kernel_rfl) (by decide) (fun _ _ _ h => h) (by kernel_rfl) (by kernel_rfl) (yieldsIf_load_mid (by rfl) 25 _ rfl o 0 rfl (drwA h d).toList _ (fun u hu => blk_range hu) Tryd.underlying25 rfl (by rw [Array.length_toList]; exact sizeDrw _ _)) hS ?_
        rw [Array.toArray_toList]
        simp only [Act.put, List.setIfInBounds_toArray, List.set_cons_zero, List.set_cons_succ]
        refine anyE_one (i := 5) rfl (by kernel_rfl) rfl (fun K hK => ?_)
        refine op_store_row 25 _ _ rfl rfl o1 (drwA h d) rfl rfl 25 (drwA zeroH 0) (HZ4.out.up (Up.refl _).drew) (sizeDrw _ _) (by rw [drwA_size, drwA_size]) (drwA_one _ _) ?_
        have hS5 : Blk (w4.drew.setRow o1 (drwA h d)) o 25 (drwA h d) := Blk.rowApart hS (by omega) _
        refine hK.out _ _ (.inr hS5) ?_
        clear hK
        refine anyE_take (i := 6) (v := ?_) 5 rfl rfl (by kernel_rfl) (by kernel_rfl) (by decide) (fun _ _ _ h => h) (by kernel_rfl) (by kernel_rfl) (.inl ⟨by rfl, fun u hu => ?_⟩) hS5 ?_
        rotate_left
        · (go_simp; first | done | with_reducible rfl)
        simp only [Act.put, List.setIfInBounds_toArray, List.set_cons_zero, List.set_cons_succ]
        refine anyE_one (i := 7) rfl (by kernel_rfl) rfl (fun K hK => ?_)
        go_simp
        refine hK.out _ _ (.inl rfl) (anyE_done (by kernel_rfl) ?_ _)
        clear hK
        go_wp2
        refine bodyPost_ret (v := .tuple #[.agg (drwA h d), .slice p n.toNat n.toNat, .int .i64 0]) (results_row_tmp2 Tryd.results16 _ _ o1 25 _ (0, 0) _ (by rfl) ((HZ4.out.up (Up.refl _).drew).row _) Tryd.underlying25 rfl (sizeDrw _ _)) rfl ⟨.slice p n.toNat n.toNat, by rw [HVr.out.1, HEr0.out]; rfl, ?_, (HU4.out.drew).setRow (by have := HOo.out; have := HO1.out; omega) _⟩
        rw [HVr.out.2]
        exact seq_cut (own_grown (HO4.out.up (Up.refl _).drew) (grown_own w4.drew o1 (drwA h d)) (by omega)).seq (by omega)
end Go.Proofs.YtdlcmpbpdbpanaaDoor
namespace Go.Proofs.YtdlcmpbpdbpanaaDoor
open Go.RowKit Go.Sp
set_option maxHeartbeats 4000000
set_option maxRecDepth 20000

theorem sizeTr (h : Nat → Int) (c : Int) : (Tryd.prog.info? 141).map (·.size) = some (drwA h c).size := by rw [drwA_size]; kernel_rfl
def trTag : ByteArray := { data := #[115, 112, 101, 99, 105, 101, 47, 116, 114, 97, 110, 115, 99, 114, 105, 112, 116] }
theorem trTag_txt : txt trTag = tagTr := by decide
def absTag : ByteArray := { data := #[115, 112, 101, 99, 105, 101, 47, 97, 98, 115, 111, 114, 98] }
theorem absTag_txt : txt absTag = tagAbsorb := by decide
def chTag : ByteArray := { data := #[115, 112, 101, 99, 105, 101, 47, 99, 104, 97, 108, 108, 101, 110, 103, 101] }
theorem chTag_txt : txt chTag = tagChal := by decide

theorem tNew_ok (s : ByteArray) (w : World) (hT : TabS w) (hs : Lab s) :
    Calls Tryd.prog 89 #[.string s] w fun e w' => e = .returned (.tuple #[drw (trNew (txt s)) 0, .int .i64 0]) ∧ Up w w' := by
  have HTg := hid (fun w' (v' : Value) (hU : Up w w') (hv' : SeqAt .u8 w' v' (txt s)) => Tagged_any trTag v' (txt s) w' (hT.up hU) (by decide) (by decide) hv' (by rw [txt_length]; have := hs.max; omega) (txt_byt s))
  rw [trTag_txt] at HTg
  have HV : Hid (trNew (txt s) = tagB tagTr (txt s)) := hid rfl
  have M1 := hid (fun w' => tvalid_ok s w' hs)
  generalize trNew (txt s) = H at *
  rw [← HV.out] at HTg
  have d2 : s.size ≤ 24 := hs.max
  have hcv := fun w' => run_bytes_of_string (P := Tryd.prog) w' 9 31 5 s Tryd.underlying9 Tryd.underlying31 Tryd.underlying5
  clear hT hs HV
  obtain ⟨o, ho⟩ : ∃ o, w.heap.size = o := ⟨_, rfl⟩
  have HO := hid ho
  clear ho
  go_enter Tryd.func89, Tryd.ntmps89
  have hZ := Blk.new (w := w) (t := 141) (g := o) HO.out zero33
  have HZ := hid hZ
  clear hZ
  go_wp2_with fail
  refine (M1.out _).mono ?_
  rintro e w1 ⟨rfl, hU1⟩
  have HZ1 := hid (HZ.out.up hU1)
  have HU1 := hid (((Up.refl w).alloc _).trans hU1)
  rw [HO.out]
  clear hU1 HZ
  go_wp2_with fail
  refine (HTg.out _ _ ((HU1.out.alloc _).drew) (seq_text_at s _ _ _ rfl cap_ge (cap_le (by omega)))).mono ?_
  rintro e w2 ⟨rfl, hU2⟩
  have HZ2 := hid (((HZ1.out.alloc _).up (Up.refl _).drew).up hU2)
  have HU2 := hid (((HU1.out.alloc _).drew).trans hU2)
  clear hU2 HZ1 HU1 hcv
  have l0 := HZ2.out.lt
  unfold hashV
  go_wp2_with (first
    | (refine wpList_store_rowTo rfl 23 _ _ rfl rfl _ _ rfl rfl 23 _ (heap_alloc_new _ _) (by rw [arrK_size]; kernel_rfl) (by rw [arrK_size]; rfl) arrK_one ?_; rw [World.setRow_alloc_new])
    | (refine wpList_load_row rfl 23 _ rfl w2.heap.size rfl 23 (arrK .u8 H 32) (0, 0) _ (Blk.new rfl rfl) Tryd.underlying23 rfl (by rw [arrK_size]; kernel_rfl) ?_)
    | (refine wpList_buildTo rfl 141 _ rfl _ rfl (drwA H 0) (by kernel_rfl) ?_)
    | (refine wpList_store_rowTo rfl 141 _ _ rfl rfl o (drwA H 0) rfl rfl 141 (drwA zeroH 0) (HZ2.out.alloc _) (sizeTr _ _) (by rw [drwA_size, drwA_size]) (drwA_one _ _) ?_))
  refine bodyPost_ret (v := .tuple #[.agg (drwA H 0), .int .i64 0]) (results_row_tmp Tryd.results89 _ _ o 141 _ (0, 0) _ (by rfl) ((HZ2.out.alloc _).row _) Tryd.underlying141 rfl (sizeTr _ _)) rfl ⟨rfl, (HU2.out.alloc _).setRow (by have := HO.out; omega) _⟩

theorem tAbsorb_ok (h : Nat → Int) (c : Int) (s : ByteArray) (k n : Int) (b l : Value) (es : List Int) (w : World) (hT : TabS w) (hB : Byt h) (c0 : 0 ≤ c) (c1 : c < 1000) (hs : Lab s) (hq : ItmAt w 6 k n b l es) (hl : es.length ≤ 16000) (hes : ∀ x ∈ es, 0 ≤ x ∧ x ≤ 255) :
    Calls Tryd.prog 138 #[drw h c, .string s, itm k n b l] w fun e w' => e = .returned (.tuple #[drw (absB h (txt s) es) (c + 1), .int .i64 0]) ∧ Up w w' := by
  have HV : Hid (absB h (txt s) es = tagB (txt absTag) (frameE h (txt s) [es])) := hid (by rw [absTag_txt]; rfl)
  have M1 := hid (fun w' => tValid_ok h c w' c0 (by omega))
  have M2 := hid (fun w' => tvalid_ok s w' hs)
  have M3 := hid (fun w' (g0 : Nat) (hU : Up w w') (hc : ItmCells w' g0 0 k n b l) => thash_one absTag h c s g0 ⟨k, n, b, l⟩ es w' (hT.up hU) hB (by decide) (by decide) hs hc (hq.up hU) hl hes)
  rw [← HV.out] at M3
  generalize absB h (txt s) es = H at *
  obtain ⟨⟨ba, bn, bc, rfl⟩, la, ln, lc, rfl⟩ := itm_shape hq
  have hctr := drwA_ctr h c
  have HCt := hid hctr
  have HSz := hid (sizeTr h c)
  unfold drw at M1 M3 ⊢
  generalize drwA h c = cs at *
  have dc : (c == 1000) = false := by simp; omega
  have hwr : IntKind.i64.wrap (c + 1) = c + 1 := IntWalk.i64_in _ (by omega)
  clear hT hB hs hq hl hes HV hctr
  obtain ⟨o, ho⟩ : ∃ o, w.heap.size = o := ⟨_, rfl⟩
  have HO := hid ho
  obtain ⟨o1, ho1⟩ : ∃ o1, o + 1 = o1 := ⟨_, rfl⟩
  have HO1 := hid ho1
  obtain ⟨o2, ho2⟩ : ∃ o2, o1 + 1 = o2 := ⟨_, rfl⟩
  have HO2 := hid ho2
  clear ho ho1 ho2
  go_enter Tryd.func138, Tryd.ntmps138
  have hB0 := Blk.new (w := w) (t := 141) (cs := cs) (g := w.heap.size) rfl rfl
  go_wp2_with (refine wpList_load_row rfl 141 _ rfl w.heap.size rfl 141 cs (0, 0) _ ((hB0.alloc _).alloc _) Tryd.underlying141 rfl HSz.out ?_)
  refine (M1.out _).mono ?_
  rintro e w1 ⟨rfl, hU1⟩
  have HS1 := hid (((Blk.new (w := w) (t := 141) (cs := cs) (g := o) HO.out rfl).up (((Up.refl _).alloc _).alloc _)).up hU1)
  have HI1 := hid (((Blk.new (g := o1) (t := 87) (by have := HO.out; have := HO1.out; simp; omega) rfl).up ((Up.refl _).alloc _)).up hU1)
  have HZ1 : Hid (Blk w1 o2 141 (drwA zeroH 0)) := hid ((Blk.new (g := o2) (t := 141) (by have := HO.out; have := HO1.out; have := HO2.out; simp; omega) zero33).up hU1)
  have HU1 := hid (((((Up.refl w).alloc _).alloc _).alloc _).trans hU1)
  rw [HO.out, HO1.out, HO2.out]
  clear hU1 hB0
  go_wp2_with fail
  refine (M2.out _).mono ?_
  rintro e w2 ⟨rfl, hU2⟩
  have HS2 := hid (HS1.out.up hU2)
  have HI2 := hid (HI1.out.up hU2)
  have HZ2 := hid (HZ1.out.up hU2)
  have HU2 := hid (HU1.out.trans hU2)
  clear hU2 HS1 HI1 HZ1 HU1
  have i0 := HI2.out.val (i := 0) rfl
  have i1 := HI2.out.val (i := 1) rfl
  have i2 := HI2.out.val (i := 2) rfl
  have i3 := HI2.out.val (i := 3) rfl
  go_wp2_with (refine wpList_load_row rfl 141 _ rfl o rfl 141 cs (0, 0) _ HS2.out Tryd.underlying141 rfl HSz.out ?_)
  refine (M3.out _ w2.heap.size (HU2.out.alloc _) (itm_new rfl)).mono ?_
  rintro e w3 ⟨rfl, hU3⟩
  have hU3 := ((Up.refl w2).alloc _).trans hU3
  have HS3 := hid (HS2.out.up hU3)
  have HZ3 := hid (HZ2.out.up hU3)
  have HU3 := hid (HU2.out.trans hU3)
  clear hU3 HS2 HI2 HZ2 HU2 i0 i1 i2 i3
  have q32 : w3.cell? ⟨o, 32, none⟩ = some (.int .i64 c) := HS3.out.val HCt.out
  have l0 := HS3.out.lt
  have l1 := HZ3.out.lt
  unfold hashV
  go_wp2_with (first
    | (refine wpList_store_rowTo rfl 23 _ _ rfl rfl _ _ rfl rfl 23 _ (heap_alloc_new _ _) (by rw [arrK_size]; kernel_rfl) (by rw [arrK_size]; rfl) arrK_one ?_; rw [World.setRow_alloc_new])
    | (refine wpList_load_row rfl 23 _ rfl w3.heap.size rfl 23 (arrK .u8 H 32) (0, 0) _ (Blk.new rfl rfl) Tryd.underlying23 rfl (by rw [arrK_size]; kernel_rfl) ?_)
    | (refine wpList_buildTo rfl 141 _ rfl _ rfl (drwA H (c + 1)) (by kernel_rfl) ?_)
    | (refine wpList_store_rowTo rfl 141 _ _ rfl rfl o2 (drwA H (c + 1)) rfl rfl 141 (drwA zeroH 0) (HZ3.out.alloc _) (sizeTr _ _) (by rw [drwA_size, drwA_size]) (drwA_one _ _) ?_))
  refine bodyPost_ret (v := .tuple #[.agg (drwA H (c + 1)), .int .i64 0]) (results_row_tmp Tryd.results138 _ _ o2 141 _ (0, 0) _ (by rfl) ((HZ3.out.alloc _).row _) Tryd.underlying141 rfl (sizeTr _ _)) rfl ⟨rfl, (HU3.out.alloc _).setRow (by have := HO.out; have := HO1.out; have := HO2.out; omega) _⟩
end Go.Proofs.YtdlcmpbpdbpanaaDoor
namespace Go.Proofs.YtdlcmpbpdbpanaaDoor
open Go.RowKit Go.Sp
set_option maxHeartbeats 4000000
set_option maxRecDepth 20000

theorem encInts_length (xs : List Int) : (encInts xs).length = xs.length * 9 + 5 := by
  rw [encInts, encList_length]
  congr 1
  induction xs with
  | nil => rfl
  | cons x xs ih => rw [List.map_cons, List.flatten_cons, List.length_append, ih, encInt_length, List.length_cons]; omega
theorem encInts_byt (xs : List Int) : ∀ y ∈ encInts xs, 0 ≤ y ∧ y ≤ 255 := by
  refine encList_byt fun e he => ?_
  obtain ⟨x, _, rfl⟩ := List.mem_map.1 he
  exact encInt_byt x
theorem ints_shape {w : World} {v : Value} {xs : List Int} (h : IntsAt w v xs) : ∃ a n c, v = .slice a n c := by
  obtain ⟨_, a, c, rfl, _⟩ := h
  exact ⟨_, _, _, rfl⟩

theorem encInts_ok (v : Value) (xs : List Int) (w : World) (hv : IntsAt w v xs) (hl : xs.length ≤ 1000) :
    Calls Tryd.prog 112 #[v] w fun e w' => ∃ l, e = .returned (itm 3 0 nilS l) ∧ ItmAt w' 1 3 0 nilS l (encInts xs) ∧ Up w w' := by
  obtain ⟨l1, a1, cp1, rfl, hc1⟩ := hv
  have HC := hid hc1
  obtain ⟨n, hn⟩ : ∃ n, xs.length = n := ⟨_, rfl⟩
  have HN := hid hn
  rw [hn] at l1 hl
  rw [hn]
  clear hc1 hn
  obtain ⟨o, ho⟩ : ∃ o, w.heap.size = o := ⟨_, rfl⟩
  have HO := hid ho
  obtain ⟨o1, ho1⟩ : ∃ o1, o + 1 = o1 := ⟨_, rfl⟩
  have HO1 := hid ho1
  obtain ⟨o2, ho2⟩ : ∃ o2, o1 + 1 = o2 := ⟨_, rfl⟩
  have HO2 := hid ho2
  clear ho ho1 ho2
  go_enter Tryd.func112, Tryd.ntmps112
  go_wp2_with fail
  have HZ0 : Hid (Blk ((w.alloc (.cells #[.int .i64 0, .int .i64 0, nilS, nilS] 87)).alloc (.cells #[.int .i64 3, .int .i64 0, nilS, nilS] 87)) o 87 #[.int .i64 0, .int .i64 0, nilS, nilS]) := hid ((Blk.new HO.out rfl).alloc _)
  have HL0 : Hid (Blk ((w.alloc (.cells #[.int .i64 0, .int .i64 0, nilS, nilS] 87)).alloc (.cells #[.int .i64 3, .int .i64 0, nilS, nilS] 87)) o1 87 #[.int .i64 3, .int .i64 0, nilS, nilS]) := hid (Blk.new (by have := HO.out; have := HO1.out; simp; omega) rfl)
  have HU0 : Hid (Up w ((w.alloc (.cells #[.int .i64 0, .int .i64 0, nilS, nilS] 87)).alloc (.cells #[.int .i64 3, .int .i64 0, nilS, nilS] 87))) := hid (((Up.refl w).alloc _).alloc _)
  rw [HO.out, HO1.out]
  rw [show (w.alloc (.cells #[.int .i64 0, .int .i64 0, .slice none 0 0, .slice none 0 0] 87)).alloc (.cells #[.int .i64 3, .int .i64 0, .slice none 0 0, .slice none 0 0] 87) = (w.alloc (.cells #[.int .i64 0, .int .i64 0, nilS, nilS] 87)).alloc (.cells #[.int .i64 3, .int .i64 0, nilS, nilS] 87) from rfl]
  generalize (w.alloc (.cells #[.int .i64 0, .int .i64 0, nilS, nilS] 87)).alloc (.cells #[.int .i64 3, .int .i64 0, nilS, nilS] 87) = w0 at *
  go_loopw [9] (fun vi wr => ∃ (i : Nat) (ad : Option Addr) (cp : Nat), i ≤ n ∧ vi = .int .i64 i ∧ Hid (Blk wr o1 87 #[.int .i64 3, .int .i64 0, nilS, .slice ad i cp]) ∧ Hid (Blk wr o 87 #[.int .i64 0, .int .i64 0, nilS, nilS]) ∧ Hid (OwnQ 87 wr o2 (.slice ad i cp) ((xs.take i).map quadI)) ∧ Hid (Up w wr)) (fun vi _ => n - (intOf vi).toNat)
  case atStart => exact ⟨0, none, 0, by omega, rfl, HL0, HZ0, hid ownQ_none, HU0⟩
  case round =>
    clear HL0 HZ0 HU0
    obtain ⟨i, ad, cp, hi, rfl, HL, HZ, HQ, HU⟩ := hrel
    have lL : o1 < wr.heap.size := HL.out.lt
    have hlo : o < o1 := by have := HO1.out; omega
    have hlo2 : o1 < o2 := by have := HO2.out; omega
    have hlw : w.heap.size ≤ o := by have := HO.out; omega
    by_cases hlt : i < n
    · have hlx : i < xs.length := by rw [HN.out]; exact hlt
      obtain ⟨b1, f1, rfl, q1⟩ := ints_cell HC.out HU.out hlx
      have HT : Hid (xs.take (i + 1) = xs.take i ++ [xs.getD i 0]) := hid (by rw [List.take_succ_eq_append_getElem hlx]; simp [hlx])
      have HLi : Hid (((xs.take i).map quadI).length = i) := hid (by simp; omega)
      have HLi1 : Hid (((xs.take (i + 1)).map quadI).length = i + 1) := hid (by simp; omega)
      clear hlx
      generalize xs.getD i 0 = x at *
      have HQ7 : Hid ((xs.take i).map quadI ++ [quadI x] = (xs.take (i + 1)).map quadI) := hid (by rw [HT.out, List.map_append]; rfl)
      have q3 := HL.out.val (i := 3) rfl
      go_wp2_with (at_builtin; refine wp_appQ infoItm rfl Tryd.underlying85 (by omega) rfl _ _ rfl o2 rfl (HQ.out.up ((Up.refl wr).alloc _)) wr.heap.size 1 (news := [quadI x]) rfl (fun j hj => by (obtain rfl : j = 0 := (by simp at hj; omega)); exact itm_new rfl) (fun j hj => by (obtain rfl : j = 0 := (by simp at hj; omega)); exact ⟨rfl, rfl⟩) (by have := HLi.out; simp; simp at this; omega) (by have := HO2.out; simp; omega) ?_; intro v5 w5 hO5 hg5; have hB5 : Below o2 wr w5 := below_trans (below_of_up ((Up.refl wr).alloc _) (by have := HO2.out; omega)) ((HQ.out.up ((Up.refl _).alloc _)).below hg5 (by have := HO2.out; simp; omega)); have HL5 := hid (HL.out.below hB5 hlo2); have k3 := HL5.out.val (i := 3) rfl; have y3 := HL5.out.thawed 3; rw [HQ7.out] at hO5; obtain ⟨a5, c5, rfl⟩ := hO5.shape; rw [HLi1.out] at hO5; rw [HLi1.out])
      have HL6 : Hid (Blk (w5.setCell ⟨o1, 3, none⟩ (.slice a5 (i + 1) c5)) o1 87 #[.int .i64 3, .int .i64 0, nilS, .slice a5 (i + 1) c5]) := hid (HL5.out.wrote 3 _)
      have HZ6 := hid ((HZ.out.below hB5 (by omega)).apart (a := ⟨o1, 3, none⟩) (show o ≠ o1 by omega) (.slice a5 (i + 1) c5))
      have HQ6 := hid (hO5.set (a := ⟨o1, 3, none⟩) (show o1 < o2 by omega) (.slice a5 (i + 1) c5))
      have HU6 := hid ((up_below HU.out hB5 (by omega)).setCell (a := ⟨o1, 3, none⟩) (show w.heap.size ≤ o1 by omega) (.slice a5 (i + 1) c5))
      clear hO5 hg5 hB5 HL5 k3 y3 q3 q1
      go_roundw
      case rel => exact ⟨i + 1, a5, c5, by omega, by go_num, HL6, HZ6, HQ6, HU6⟩
      case measure => simp [intOf]; omega
    · obtain rfl : i = n := by omega
      have HQr : Hid (OwnQ 87 wr o2 (.slice ad i cp) (xs.map quadI)) := hid (by
        have := HQ.out
        rw [List.take_of_length_le (by rw [HN.out]; omega)] at this
        exact this)
      have k0 := HL.out.val (i := 0) rfl
      have k1 := HL.out.val (i := 1) rfl
      have k2 := HL.out.val (i := 2) rfl
      have k3 := HL.out.val (i := 3) rfl
      have z0 := HZ.out.val (i := 0) rfl
      have z1 := HZ.out.val (i := 1) rfl
      have z2 := HZ.out.val (i := 2) rfl
      have z3 := HZ.out.val (i := 3) rfl
      have y0 := HZ.out.thawed 0
      have y1 := HZ.out.thawed 1
      have y2 := HZ.out.thawed 2
      have y3 := HZ.out.thawed 3
      clear HQ
      go_wp2
      refine bodyPost_ret (v := itm 3 0 nilS (.slice ad i cp)) (results_cell_row rfl _ _ o 87 _ (0, 0) _ (by rfl) (blk_four HZ.out _ _ _ _) Tryd.underlying87 rfl (by kernel_rfl)) rfl ⟨.slice ad i cp, rfl, ?_, (((HU.out.setCell hlw _).setCell hlw _).setCell hlw _).setCell hlw _⟩
      refine itm_list ((((((HQr.out.set (a := ⟨o, 0, none⟩) (show o < o2 by omega) _).set (a := ⟨o, 1, none⟩) (show o < o2 by omega) _).set (a := ⟨o, 2, none⟩) (show o < o2 by omega) _).set (a := ⟨o, 3, none⟩) (show o < o2 by omega) _)).row (quadI_at _ 0 xs)) (by rw [List.length_map, HN.out]; exact hl)

theorem tInts_ok (h : Nat → Int) (c : Int) (s : ByteArray) (v : Value) (xs : List Int) (w : World) (hT : TabS w) (hB : Byt h) (c0 : 0 ≤ c) (c1 : c < 1000) (hs : Lab s) (hv : IntsAt w v xs) (hl : xs.length ≤ 1000) :
    Calls Tryd.prog 137 #[drw h c, .string s, v] w fun e w' => e = .returned (.tuple #[drw (absB h (txt s) (encInts xs)) (c + 1), .int .i64 0]) ∧ Up w w' := by
  have M1 := hid (fun w' (hU : Up w w') => encInts_ok v xs w' (hv.up hU) hl)
  have M2 := hid (fun w' (l : Value) (hU : Up w w') (hq : ItmAt w' 1 3 0 nilS l (encInts xs)) => tAbsorb_ok h c s 3 0 nilS l (encInts xs) w' (hT.up hU) hB c0 c1 hs hq.more.more.more.more.more (by rw [encInts_length]; omega) (encInts_byt xs))
  generalize absB h (txt s) (encInts xs) = H at *
  have HSz := hid (sizeTr h c)
  unfold drw at M2 ⊢
  generalize drwA h c = cs at *
  obtain ⟨av, nv, cv, rfl⟩ := ints_shape hv
  clear hT hB hs hv hl c0 c1
  obtain ⟨o, ho⟩ : ∃ o, w.heap.size = o := ⟨_, rfl⟩
  have HO := hid ho
  obtain ⟨o1, ho1⟩ : ∃ o1, o + 1 = o1 := ⟨_, rfl⟩
  have HO1 := hid ho1
  clear ho ho1
  go_enter Tryd.func137, Tryd.ntmps137
  go_wp2_with fail
  generalize hW : World.alloc _ _ = w0
  have HS0 : Hid (Blk w0 o 141 cs) := hid (by rw [← hW]; exact (Blk.new HO.out rfl).alloc _)
  have HZ0 : Hid (Blk w0 o1 141 (drwA zeroH 0)) := hid (by rw [← hW]; exact Blk.new (by have := HO.out; have := HO1.out; simp; omega) zero33)
  have HU0 : Hid (Up w w0) := hid (by rw [← hW]; exact ((Up.refl w).alloc _).alloc _)
  rw [HO.out, HO1.out]
  clear hW
  refine region_E (fun w' => Blk w' o 141 cs) 8 (by kernel_rfl) (HS0.out.up (Up.refl _).drew) fun hS => ?_
  refine anyE_take (i := 0) (v := .agg cs.toList.toArray) 8 rfl rfl (by kernel_rfl) (by kernel_rfl) (by decide) (fun _ _ _ h => h) (by kernel_rfl) (by kernel_rfl) (yieldsIf_load_mid (by rfl) 141 _ rfl o 0 rfl cs.toList _ (fun u hu => blk_range hu) Tryd.underlying141 rfl (by rw [Array.length_toList]; exact HSz.out)) hS ?_
  rw [Array.toArray_toList]
  simp only [Act.put, List.setIfInBounds_toArray, List.set_cons_zero, List.set_cons_succ]
  refine anyE_take (i := 1) (v := ?_) 9 rfl rfl (by kernel_rfl) (by kernel_rfl) (by decide) (fun _ _ _ h => h) (by kernel_rfl) (by kernel_rfl) (.inl ⟨by rfl, fun u hu => ?_⟩) hS ?_
  rotate_left
  · (go_simp; first | done | with_reducible rfl)
  simp only [Act.put, List.setIfInBounds_toArray, List.set_cons_zero, List.set_cons_succ]
  refine anyE_take (i := 2) (v := ?_) 10 rfl rfl (by kernel_rfl) (by kernel_rfl) (by decide) (fun _ _ _ h => h) (by kernel_rfl) (by kernel_rfl) (.inl ⟨by rfl, fun u hu => ?_⟩) hS ?_
  rotate_left
  · (go_simp; first | done | with_reducible rfl)
  simp only [Act.put, List.setIfInBounds_toArray, List.set_cons_zero, List.set_cons_succ]
  refine anyE_one (i := 3) rfl (by kernel_rfl) rfl (fun K hK => ?_)
  go_simp
  refine (M1.out _ (HU0.out.drew)).mono ?_
  rintro e w2 ⟨l2, rfl, hI2, hU2⟩
  dsimp only
  have hS2 := Blk.up hS hU2
  have hD2 := HU0.out.drew.trans hU2
  have hZ2 := (HZ0.out.up (Up.refl _).drew).up hU2
  refine hK.out _ _ (.inr hS2) ?_
  clear hK
  try simp only [Act.put, List.setIfInBounds_toArray, List.set_cons_zero, List.set_cons_succ]
  refine anyE_one (i := 4) rfl (by kernel_rfl) rfl (fun K hK => ?_)
  go_simp
  refine (M2.out _ l2 hD2 hI2).mono ?_
  rintro e w3 ⟨rfl, hU3⟩
  dsimp only
  have hS3 := Blk.up hS2 hU3
  have hD3 := hD2.trans hU3
  have hZ3 := hZ2.up hU3
  refine hK.out _ _ (.inr hS3) ?_
  clear hK
  try simp only [Act.put, List.setIfInBounds_toArray, List.set_cons_zero, List.set_cons_succ]
  refine anyE_take (i := 5) (v := ?_) 13 rfl rfl (by kernel_rfl) (by kernel_rfl) (by decide) (fun _ _ _ h => h) (by kernel_rfl) (by kernel_rfl) (.inl ⟨by rfl, fun u hu => ?_⟩) hS3 ?_
  rotate_left
  · (go_simp; first | done | with_reducible rfl)
  simp only [Act.put, List.setIfInBounds_toArray, List.set_cons_zero, List.set_cons_succ]
  refine anyE_take (i := 6) (v := ?_) 14 rfl rfl (by kernel_rfl) (by kernel_rfl) (by decide) (fun _ _ _ h => h) (by kernel_rfl) (by kernel_rfl) (.inl ⟨by rfl, fun u hu => ?_⟩) hS3 ?_
  rotate_left
  · (go_simp; first | done | with_reducible rfl)
  simp only [Act.put, List.setIfInBounds_toArray, List.set_cons_zero, List.set_cons_succ]
  refine anyE_one (i := 7) rfl (by kernel_rfl) rfl (fun K hK => ?_)
  refine op_store_row 141 _ _ rfl rfl o1 (drwA H (c + 1)) rfl rfl 141 (drwA zeroH 0) hZ3 (sizeTr _ _) (by rw [drwA_size, drwA_size]) (drwA_one _ _) ?_
  have hS4 : Blk (w3.setRow o1 (drwA H (c + 1))) o 141 cs := Blk.rowApart hS3 (by have := HO1.out; omega) _
  refine hK.out _ _ (.inr hS4) ?_
  clear hK
  refine anyE_one (i := 8) rfl (by kernel_rfl) rfl (fun K hK => ?_)
  go_simp
  refine hK.out _ _ (.inl rfl) (anyE_done (by kernel_rfl) ?_ _)
  clear hK
  go_wp2
  refine bodyPost_ret (v := .tuple #[.agg (drwA H (c + 1)), .int .i64 0]) (results_row_tmp Tryd.results137 _ _ o1 141 _ (0, 0) _ (by rfl) (hZ3.row _) Tryd.underlying141 rfl (sizeTr _ _)) rfl ⟨rfl, hD3.setRow (by have := HO.out; have := HO1.out; omega) _⟩

theorem tChallenge_ok (h : Nat → Int) (c : Int) (s : ByteArray) (q : Int) (w : World) (hT : TabS w) (hB : Byt h) (c0 : 0 ≤ c) (c1 : c < 1000) (hs : Lab s) (q0 : 2 ≤ q) (q1 : q < 2305843009213693952) :
    Calls Tryd.prog 92 #[drw h c, .string s, .int .i64 q] w fun e w' => (∃ T, e = .returned (.tuple #[.agg T, .int .i64 (chalN h (txt s) q), .int .i64 0]) ∧ T.size = 33 ∧ T.all (·.oneCell') = true) ∧ Up w w' := by
  have HVc : Hid (chalN h (txt s) q = numH (tagB (txt chTag) (frameE h (txt s) [])) q) := hid (by rw [chTag_txt]; rfl)
  have M1 := hid (fun w' => tValid_ok h c w' c0 (by omega))
  have M2 := hid (fun w' => tvalid_ok s w' hs)
  have M3 := hid (fun w' (hU : Up w w') => thash_none chTag h c s w' (hT.up hU) hB (by decide) (by decide) hs)
  have HHb := hid (tagB_range (txt chTag) (frameE h (txt s) []))
  generalize tagB (txt chTag) (frameE h (txt s) []) = R at *
  have M4 := hid (fun w' => Number_ok R q w' HHb.out (by omega) q1)
  rw [← HVc.out] at M4
  generalize chalN h (txt s) q = C at *
  have M5 := hid (fun w' (hU : Up w w') => tAbsorb_ok h c s 1 C nilS nilS (encInt C) w' (hT.up hU) hB c0 c1 hs (itm_int w' C 6) (by rw [encInt_length]; omega) (encInt_byt C))
  generalize absB h (txt s) (encInt C) = H at *
  have hctr := drwA_ctr h c
  have HCt := hid hctr
  have HSz := hid (sizeTr h c)
  unfold drw at M1 M3 M5 ⊢
  generalize drwA h c = cs at *
  have dc : (c == 1000) = false := by simp; omega
  have dq : decide (q < 2) = false := by simp; omega
  have dq2 : decide (q ≥ 2305843009213693952) = false := by simp; omega
  clear hT hB hs hctr q0 q1 c0 c1
  obtain ⟨o, ho⟩ : ∃ o, w.heap.size = o := ⟨_, rfl⟩
  have HO := hid ho
  obtain ⟨o1, ho1⟩ : ∃ o1, o + 1 = o1 := ⟨_, rfl⟩
  have HO1 := hid ho1
  clear ho ho1
  go_enter Tryd.func92, Tryd.ntmps92
  have hB0 := Blk.new (w := w) (t := 141) (cs := cs) (g := w.heap.size) rfl rfl
  go_wp2_with (refine wpList_load_row rfl 141 _ rfl w.heap.size rfl 141 cs (0, 0) _ (hB0.alloc _) Tryd.underlying141 rfl HSz.out ?_)
  refine (M1.out _).mono ?_
  rintro e w1 ⟨rfl, hU1⟩
  have HS1 := hid (((Blk.new (w := w) (t := 141) (cs := cs) (g := o) HO.out rfl).up ((Up.refl _).alloc _)).up hU1)
  have HZ1 : Hid (Blk w1 o1 141 (drwA zeroH 0)) := hid ((Blk.new (g := o1) (t := 141) (by have := HO.out; have := HO1.out; simp; omega) zero33).up hU1)
  have HU1 := hid ((((Up.refl w).alloc _).alloc _).trans hU1)
  rw [HO.out, HO1.out]
  clear hU1 hB0
  go_wp2_with fail
  refine (M2.out _).mono ?_
  rintro e w2 ⟨rfl, hU2⟩
  have HS2 := hid (HS1.out.up hU2)
  have HZ2 := hid (HZ1.out.up hU2)
  have HU2 := hid (HU1.out.trans hU2)
  clear hU2 HS1 HZ1 HU1
  have q32 : w2.cell? ⟨o, 32, none⟩ = some (.int .i64 c) := HS2.out.val HCt.out
  go_wp2_with (refine wpList_load_row rfl 141 _ rfl o rfl 141 cs (0, 0) _ HS2.out Tryd.underlying141 rfl HSz.out ?_)
  refine (M3.out _ HU2.out).mono ?_
  rintro e w3 ⟨rfl, hU3⟩
  have HS3 := hid (HS2.out.up hU3)
  have HZ3 := hid (HZ2.out.up hU3)
  have HU3 := hid (HU2.out.trans hU3)
  clear hU3 HS2 HZ2 HU2 q32
  unfold hashV at M4 ⊢
  go_wp2_with (first
    | (refine wpList_store_rowTo rfl 23 _ _ rfl rfl _ _ rfl rfl 23 _ (heap_alloc_new _ _) (by rw [arrK_size]; kernel_rfl) (by rw [arrK_size]; rfl) arrK_one ?_; rw [World.setRow_alloc_new])
    | (refine wpList_load_row rfl 23 _ rfl w3.heap.size rfl 23 (arrK .u8 R 32) (0, 0) _ (Blk.new rfl rfl) Tryd.underlying23 rfl (by rw [arrK_size]; kernel_rfl) ?_))
  refine (M4.out _).mono ?_
  rintro e w4 ⟨rfl, hU4⟩
  have hU4 := ((Up.refl w3).alloc _).trans hU4
  have HS4 := hid (HS3.out.up hU4)
  have HZ4 := hid (HZ3.out.up hU4)
  have HU4 := hid (HU3.out.trans hU4)
  clear hU4 HS3 HZ3 HU3
  go_wp2_with (refine wpList_load_row rfl 141 _ rfl o rfl 141 cs (0, 0) _ HS4.out Tryd.underlying141 rfl HSz.out ?_)
  refine (M5.out _ HU4.out).mono ?_
  rintro e w5 ⟨rfl, hU5⟩
  have HZ5 := hid (HZ4.out.up hU5)
  have HU5 := hid (HU4.out.trans hU5)
  clear hU5 HS4 HZ4 HU4
  have l1 := HZ5.out.lt
  go_wp2_with (first
    | (refine wpList_store_rowTo rfl 141 _ _ rfl rfl o1 (drwA H (c + 1)) rfl rfl 141 (drwA zeroH 0) (HZ5.out.alloc _) (sizeTr _ _) (by rw [drwA_size, drwA_size]) (drwA_one _ _) ?_)
    | (refine wpList_store_rowTo rfl 141 _ _ rfl rfl _ _ rfl rfl 141 _ (heap_alloc_new _ _) (sizeTr _ _) (by rw [drwA_size]; rfl) (drwA_one _ _) ?_; rw [World.setRow_alloc_new])
    | (refine wpList_load_row rfl 141 _ rfl w5.heap.size rfl 141 (drwA H (c + 1)) (0, 0) _ (Blk.new rfl rfl) Tryd.underlying141 rfl (sizeTr _ _) ?_))
  refine bodyPost_ret (v := .tuple #[.agg (drwA H (c + 1)), .int .i64 C, .int .i64 0]) (results_row_tmp2 Tryd.results92 _ _ o1 141 _ (0, 0) _ (by rfl) ((HZ5.out.alloc _).row _) Tryd.underlying141 rfl (sizeTr _ _)) rfl ⟨⟨drwA H (c + 1), rfl, drwA_size _ _, drwA_one _ _⟩, (HU5.out.alloc _).setRow (by have := HO.out; have := HO1.out; omega) _⟩
end Go.Proofs.YtdlcmpbpdbpanaaDoor
namespace Go.Proofs.YtdlcmpbpdbpanaaDoor
open Go.RowKit Go.Sp
set_option maxHeartbeats 4000000
set_option maxRecDepth 20000

/-- The cells of a writer: the transcript, and the error. -/
def wriA (h : Nat → Int) (c e : Int) : Array Value := (drwA h c).push (.int .i64 e)
theorem wriA_err (h : Nat → Int) (c e : Int) : (wriA h c e)[33]? = some (.int .i64 e) := by
  have : (drwA h c).size = 33 := drwA_size h c
  rw [wriA, Array.getElem?_push, if_pos (by rw [this])]
theorem wriA_drw (h : Nat → Int) (c e : Int) {j : Nat} (hj : j < 33) : (wriA h c e)[j]? = (drwA h c)[j]? := by
  have : (drwA h c).size = 33 := drwA_size h c
  rw [wriA, Array.getElem?_push, if_neg (by rw [this]; omega)]
theorem wriA_size (h : Nat → Int) (c e : Int) : (wriA h c e).size = 34 := by simp [wriA, drwA_size]
theorem wri_range {w : World} {b : Nat} {t : TypeId} {h : Nat → Int} {c e : Int} (hb : Blk w b t (wriA h c e)) : w.rangeAt b 0 (drwA h c).toList := fun j v hv => by
  rw [Nat.zero_add, hb.read]
  have hj : j < 33 := by
    have := (List.getElem?_eq_some_iff.1 hv).1
    rw [Array.length_toList, drwA_size] at this
    exact this
  rw [wriA_drw _ _ _ hj, ← hv, Array.getElem?_toList]

theorem setCells_tail {g : Nat} {t : TypeId} (tail : List Value) : ∀ (cs pre post : List Value) (w : World), w.heap[g]? = some (.cells (pre ++ (post ++ tail)).toArray t (0, 0)) → post.length = cs.length →
    (w.setCells g pre.length cs).heap[g]? = some (.cells (pre ++ (cs ++ tail)).toArray t (0, 0))
  | [], pre, post, w, h, hl => by
    have : post = [] := List.length_eq_zero_iff.1 hl
    subst this
    exact h
  | v :: cs, pre, [], w, _, hl => by simp at hl
  | v :: cs, pre, p :: post, w, h, hl => by
    have h1 := heap_setCell_same w g pre.length _ t v h
    have e : ((pre ++ (p :: post ++ tail)).toArray.setIfInBounds pre.length v) = ((pre ++ [v]) ++ (post ++ tail)).toArray := by
      simp
    rw [e] at h1
    have := setCells_tail tail cs (pre ++ [v]) post _ h1 (by simpa using hl)
    rw [World.setCells]
    simpa using this

theorem wri_put {w : World} {b : Nat} {t : TypeId} {h h' : Nat → Int} {c c' e : Int} (hb : Blk w b t (wriA h c e)) : Blk (w.setCells b 0 (drwA h' c').toList) b t (wriA h' c' e) := by
  have e1 : wriA h c e = ([] ++ ((drwA h c).toList ++ [Value.int .i64 e])).toArray := by
    apply Array.toList_inj.1
    simp [wriA]
  have hb' : w.heap[b]? = some (.cells ([] ++ ((drwA h c).toList ++ [Value.int .i64 e])).toArray t (0, 0)) := by
    have h0 : w.heap[b]? = some (.cells (wriA h c e) t (0, 0)) := hb
    rw [h0, ← e1]
  have := setCells_tail (g := b) (t := t) [Value.int .i64 e] (drwA h' c').toList [] (drwA h c).toList w hb' (by rw [Array.length_toList, Array.length_toList, drwA_size, drwA_size])
  show (w.setCells b 0 (drwA h' c').toList).heap[b]? = some (.cells (wriA h' c' e) t (0, 0))
  have e2 : ([] ++ ((drwA h' c').toList ++ [Value.int .i64 e])).toArray = wriA h' c' e := by
    apply Array.toList_inj.1
    simp [wriA]
  rw [e2] at this
  exact this

theorem grown_sets {a : World} {b : Nat} : ∀ (cs : List Value) (i : Nat) {w : World}, a.grownBy w (some b) → a.grownBy (w.setCells b i cs) (some b)
  | [], _, _, h => h
  | v :: cs, i, w, h => by
    rw [World.setCells]
    exact grown_sets cs (i + 1) (grown_set h i v)

theorem wriA_zero (h : Nat → Int) (c : Int) : (wriA h c 0).setIfInBounds 33 (.int .i64 0) = wriA h c 0 := by
  apply Array.ext_getElem?
  intro j
  rw [Array.getElem?_setIfInBounds, wriA_size]
  by_cases hj : 33 = j
  · subst hj
    rw [if_pos rfl, if_pos (by omega), wriA_err]
  · rw [if_neg hj]

theorem wints_ok (h : Nat → Int) (c : Int) (s : ByteArray) (v : Value) (xs : List Int) (b : Nat) (w : World) (hT : TabS w) (hB : Byt h) (c0 : 0 ≤ c) (c1 : c < 999) (hs : Lab s) (hv : IntsAt w v xs) (hl : xs.length ≤ 1000) (hb : Blk w b 143 (wriA h c 0)) :
    Calls Tryd.prog 90 #[.pointer (some ⟨b, 0, none⟩), .string s, v] w fun e w' => e = .returned (.pointer (some ⟨b, 0, none⟩)) ∧ Blk w' b 143 (wriA (absB h (txt s) (encInts xs)) (c + 1) 0) ∧ w.grownBy w' (some b) := by
  have M := hid (fun w' (hU : Up w w') => tInts_ok h c s v xs w' (hT.up hU) hB c0 (by omega) hs (hv.up hU) hl)
  generalize absB h (txt s) (encInts xs) = H at *
  have hsd : (Tryd.prog.info? 141).map (·.size) = some (drwA h c).toList.length := by rw [Array.length_toList, drwA_size]; kernel_rfl
  have HSd := hid hsd
  have HSd2 := hid (sizeTr H (c + 1))
  obtain ⟨av, nv, cv, rfl⟩ := ints_shape hv
  have q33 := hb.val (wriA_err h c 0)
  have HB := hid hb
  unfold drw at M
  clear hT hB hs hv hl hsd hb
  go_enter Tryd.func90, Tryd.ntmps90
  go_wp2_with (refine wpList_load_mid rfl 141 _ rfl b 0 rfl (drwA h c).toList _ (wri_range HB.out) Tryd.underlying141 rfl HSd.out ?_; rw [Array.toArray_toList])
  refine (M.out _ (Up.refl _)).mono ?_
  rintro e w1 ⟨rfl, hU1⟩
  have HB1 := hid (HB.out.up hU1)
  have HG1 := hid (grown_up (b := b) hU1)
  clear hU1 q33
  have hB2 : Blk (w1.setCells b 0 (drwA H (c + 1)).toList) b 143 (wriA H (c + 1) 0) := wri_put HB1.out
  have hG2 := grown_sets (drwA H (c + 1)).toList 0 HG1.out
  have q33 := hB2.val (wriA_err H (c + 1) 0)
  have y33 := hB2.thawed 33
  have HB2 := hid hB2
  have HG2 := hid hG2
  have HTh := hid ((Blk.there HB1.out (n := 33) (by rw [wriA_size]; omega)))
  clear hB2 hG2
  go_wp2_with (refine wpList_store_mid rfl 141 _ _ rfl b 0 (drwA H (c + 1)) rfl rfl (by rw [drwA_size]; exact HTh.out) HSd2.out (drwA_one _ _) ?_)
  go_ret
  refine ⟨rfl, ?_, grown_set HG2.out 33 _⟩
  have := HB2.out.wrote 33 (.int .i64 0)
  rw [wriA_zero] at this
  exact this

theorem wbytes_ok (h : Nat → Int) (c : Int) (s : ByteArray) (v : Value) (xs : List Int) (b : Nat) (w : World) (hT : TabS w) (hB : Byt h) (c0 : 0 ≤ c) (c1 : c < 999) (hs : Lab s) (hv : SeqAt .u8 w v xs) (hl : xs.length ≤ 1000) (hx : ∀ x ∈ xs, 0 ≤ x ∧ x ≤ 255) (hb : Blk w b 143 (wriA h c 0)) :
    Calls Tryd.prog 91 #[.pointer (some ⟨b, 0, none⟩), .string s, v] w fun e w' => e = .returned (.pointer (some ⟨b, 0, none⟩)) ∧ Blk w' b 143 (wriA (absB h (txt s) (encBytes xs)) (c + 1) 0) ∧ w.grownBy w' (some b) := by
  have M := hid (fun w' (hU : Up w w') => tAbsorb_ok h c s 2 0 v nilS (encBytes xs) w' (hT.up hU) hB c0 (by omega) hs (itm_bytes (hv.up hU) (by omega) hx 6) (by rw [encBytes_length]; omega) (encBytes_byt hx))
  generalize absB h (txt s) (encBytes xs) = H at *
  have hsd : (Tryd.prog.info? 141).map (·.size) = some (drwA h c).toList.length := by rw [Array.length_toList, drwA_size]; kernel_rfl
  have HSd := hid hsd
  have HSd2 := hid (sizeTr H (c + 1))
  obtain ⟨av, cv, rfl, _, _⟩ := hv.shape
  have q33 := hb.val (wriA_err h c 0)
  have HB := hid hb
  unfold drw at M
  clear hT hB hs hv hl hx hsd hb
  go_enter Tryd.func91, Tryd.ntmps91
  go_wp2_with (refine wpList_load_mid rfl 141 _ rfl b 0 rfl (drwA h c).toList _ (wri_range HB.out) Tryd.underlying141 rfl HSd.out ?_; rw [Array.toArray_toList])
  refine (M.out _ (Up.refl _)).mono ?_
  rintro e w1 ⟨rfl, hU1⟩
  have HB1 := hid (HB.out.up hU1)
  have HG1 := hid (grown_up (b := b) hU1)
  clear hU1 q33
  have hB2 : Blk (w1.setCells b 0 (drwA H (c + 1)).toList) b 143 (wriA H (c + 1) 0) := wri_put HB1.out
  have hG2 := grown_sets (drwA H (c + 1)).toList 0 HG1.out
  have q33 := hB2.val (wriA_err H (c + 1) 0)
  have y33 := hB2.thawed 33
  have HB2 := hid hB2
  have HG2 := hid hG2
  have HTh := hid ((Blk.there HB1.out (n := 33) (by rw [wriA_size]; omega)))
  clear hB2 hG2
  go_wp2_with (refine wpList_store_mid rfl 141 _ _ rfl b 0 (drwA H (c + 1)) rfl rfl (by rw [drwA_size]; exact HTh.out) HSd2.out (drwA_one _ _) ?_)
  go_ret
  refine ⟨rfl, ?_, grown_set HG2.out 33 _⟩
  have := HB2.out.wrote 33 (.int .i64 0)
  rw [wriA_zero] at this
  exact this

end Go.Proofs.YtdlcmpbpdbpanaaDoor
