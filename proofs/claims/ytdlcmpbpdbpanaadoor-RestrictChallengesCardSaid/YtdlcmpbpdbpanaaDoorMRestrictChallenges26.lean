/- Package draw: New. Package draw: Bytes. -/
import Derived.Test.YtdlcmpbpdbpanaaDoorMRestrictChallenges25
import Derived.Test.YtdlcmpbpdbpanaaDoorMRestrictChallenges22
namespace Go.Proofs.YtdlcmpbpdbpanaaDoor
open Go.RowKit Go.Sp
set_option maxHeartbeats 2000000
set_option maxRecDepth 20000

/-- The text ahead of a source's seed. -/
def drawTag : ByteArray := { data := #[115, 112, 101, 99, 105, 101, 47, 100, 114, 97, 119] }

/-- What New returns. -/
def newV (xs : List Int) : Value := if xs.length ≤ 16384 then .tuple #[drw (tagB (txt drawTag) xs) 0, .int .i64 0] else .tuple #[drw zeroH 0, .int .i64 5]

theorem New_any (v : Value) (xs : List Int) (w : World) (hT : TabS w) (hv : SeqAt .u8 w v xs) (hB : ∀ x ∈ xs, 0 ≤ x ∧ x ≤ 255) :
    Calls Tryd.prog 18 #[v] w fun e w' => e = .returned (newV xs) ∧ Up w w' := by
  have HT := hid hT
  have HV := hid hv
  have HB := hid hB
  obtain ⟨V, hV⟩ : ∃ V, newV xs = V := ⟨_, rfl⟩
  have HNv := hid hV
  rw [hV]
  obtain ⟨a, cap, rfl, h1, h2⟩ := hv.shape
  obtain ⟨n, hn⟩ : ∃ n, xs.length = n := ⟨_, rfl⟩
  have HN := hid hn
  rw [hn] at HV h1
  rw [hn]
  clear hT hv hB hV hn
  by_cases hl : n ≤ 16384
  case neg =>
    have d1 : decide ((n : Int) > 16384) = true := by simp; omega
    have HVr : Hid (V = .tuple #[drw zeroH 0, .int .i64 5]) := hid (by rw [← HNv.out, newV, if_neg (by rw [HN.out]; exact hl)])
    clear hl
    go_enter Tryd.func18, Tryd.ntmps18
    go_wp2_with (refine wpList_store_rowTo rfl 25 _ _ rfl rfl w.heap.size (drwA zeroH 0) ?_ ?_ 25 (drwA zeroH 0) ?_ ?_ ?_ ?_ ?_)
    · rfl
    · exact (congrArg Value.agg zero33)
    · exact Blk.new rfl zero33
    · exact sizeDrw _ _
    · rfl
    · exact drwA_one _ _
    refine bodyPost_ret (v := .tuple #[.agg (drwA zeroH 0), .int .i64 5]) (results_row_tmp Tryd.results18 _ _ w.heap.size 25 _ (0, 0) _ (by rfl) ((Blk.new (cs' := drwA zeroH 0) rfl zero33).row _) Tryd.underlying25 rfl (sizeDrw _ _)) rfl ⟨by rw [HVr.out]; rfl, ((Up.refl w).alloc _).setRow (Nat.le_refl _) _⟩
  have d1 : decide ((n : Int) > 16384) = false := by simp; omega
  have HVr : Hid (V = .tuple #[drw (tagB (txt drawTag) xs) 0, .int .i64 0]) := hid (by rw [← HNv.out, newV, if_pos (by rw [HN.out]; exact hl)])
  have HTg := hid (fun w' (hU : Up w w') => Tagged_any drawTag (.slice a n cap) xs w' (HT.out.up hU) (by decide) (by decide) (HV.out.up hU) (by rw [HN.out]; omega) HB.out)
  obtain ⟨H, hH⟩ : ∃ H, tagB (txt drawTag) xs = H := ⟨_, rfl⟩
  rw [hH] at HTg HVr
  clear hH hl HNv
  go_enter Tryd.func18, Tryd.ntmps18
  have hZ := Blk.new (w := w) (t := 25) (g := w.heap.size) rfl zero33
  have HZ := hid hZ
  clear hZ
  go_wp2_with fail
  refine (HTg.out _ ((Up.refl w).alloc _)).mono ?_
  rintro e w1 ⟨rfl, hU1⟩
  have HZ1 := hid (HZ.out.up hU1)
  have HU1 := hid (((Up.refl w).alloc _).trans hU1)
  obtain ⟨o, ho⟩ : ∃ o, w.heap.size = o := ⟨_, rfl⟩
  have HOo := hid ho
  rw [ho] at HZ1
  rw [ho]
  clear hU1 HZ ho HTg
  have l0 := HZ1.out.lt
  unfold hashV
  go_wp2_with (first
    | (refine wpList_store_rowTo rfl 23 _ _ rfl rfl _ _ rfl rfl 23 _ (heap_alloc_new _ _) (by rw [arrK_size]; kernel_rfl) (by rw [arrK_size]; rfl) arrK_one ?_; rw [World.setRow_alloc_new])
    | (refine wpList_load_row rfl 23 _ rfl w1.heap.size rfl 23 (arrK .u8 H 32) (0, 0) _ (Blk.new rfl rfl) Tryd.underlying23 rfl (by rw [arrK_size]; kernel_rfl) ?_)
    | (refine wpList_buildTo rfl 25 _ rfl _ rfl (drwA H 0) (by kernel_rfl) ?_)
    | (refine wpList_store_rowTo rfl 25 _ _ rfl rfl o (drwA H 0) rfl rfl 25 (drwA zeroH 0) (HZ1.out.alloc _) (sizeDrw _ _) (by rw [drwA_size, drwA_size]) (drwA_one _ _) ?_))
  refine bodyPost_ret (v := .tuple #[.agg (drwA H 0), .int .i64 0]) (results_row_tmp Tryd.results18 _ _ o 25 _ (0, 0) _ (by rfl) ((HZ1.out.alloc _).row _) Tryd.underlying25 rfl (sizeDrw _ _)) rfl ⟨by rw [HVr.out]; rfl, (HU1.out.alloc _).setRow (by have := HOo.out; omega) _⟩
end Go.Proofs.YtdlcmpbpdbpanaaDoor
namespace Go.Proofs.YtdlcmpbpdbpanaaDoor
open Go.RowKit Go.Sp
set_option maxHeartbeats 2000000
set_option maxRecDepth 20000

/-- The bytes of k blocks. -/
def catL (h : Nat → Int) (c : Int) : Nat → List Int
  | 0 => []
  | k + 1 => catL h c k ++ hList (shaB (posL h (c + k)))
theorem catL_length (h : Nat → Int) (c : Int) : ∀ k, (catL h c k).length = 32 * k
  | 0 => rfl
  | k + 1 => by rw [catL, List.length_append, catL_length h c k, hList_length]; omega

/-- How many blocks serve for n bytes. -/
def needB (n : Int) : Int := (n + 31) / 32
/-- The error of Bytes. -/
def bytE (c n : Int) : Int := if chkE c n 0 16384 = 0 then (if c + needB n ≤ 1099511627776 then 0 else 5) else chkE c n 0 16384
/-- The bytes that Bytes returns, and the source. -/
def bytL (h : Nat → Int) (c n : Int) : List Int := if bytE c n = 0 then (catL h c (needB n).toNat).take n.toNat else []
def bytD (h : Nat → Int) (c n : Int) : Value := if bytE c n = 0 then drw h (c + needB n) else drw zeroH 0

theorem own_grown {e : TypeId} {k : IntKind} {w w' : World} {base b : Nat} {v : Value} {xs : List Int} (h : OwnS e k w base v xs) (hg : w.grownBy w' (some b)) (hb : b < base) : OwnS e k w' base v xs := by
  refine ⟨h.1, ?_⟩
  rcases h.2 with h2 | ⟨g, cap, cur, h1, h2, h3, h4⟩
  · exact .inl h2
  · exact .inr ⟨g, cap, cur, h1, h2, by rw [hg.block g (Array.getElem?_eq_some_iff.1 h3).1 (by simp; omega)]; exact h3, h4⟩

theorem step_load_row {P : Program} {ops : Array Oper} {o : Oper} {a : Act} {w : World} {K : Act → World → Prop} {Q : Exit → Act → World → Prop} {E : Prop} (hgd : o.guard = none) (ty : TypeId) (x : Operand) (ho : o.op = .load ty x)
    (g : Nat) (hx : a.eval x = .pointer (some ⟨g, 0, none⟩)) (t : TypeId) (cs : Array Value) (fr : Nat × Nat) (d : TypeDesc) (hg : w.heap[g]? = some (.cells cs t fr))
    (hu : P.underlying ty = some d) (hd : (match d with | .struct _ | .array _ _ => true | _ => false) = true) (hi : (P.info? ty).map (·.size) = some cs.size)
    (h : K (a.put o.dst (.agg cs)) w) : if Region.wanted o (yielded ops a.tmps) = true then Oper.wp P o a w K Q else E := by
  have hw : Region.wanted o (yielded ops a.tmps) = true := by simp [Region.wanted, hgd]
  rw [if_pos hw]
  exact wp_load_row ty x ho g hx t cs fr d hg hu hd hi h

theorem grown_own (w : World) (o : Nat) (cs : Array Value) : w.grownBy (w.setRow o cs) (some o) := by
  have hz := below_setRow ((Up.refl w).below.mono (Nat.zero_le _)) (B := 0) (g := o) (Nat.zero_le _) cs
  exact ⟨hz.os, hz.tape, hz.output, hz.size, fun k _ hr => setRow_other w o k cs (fun e => hr (by rw [e]))⟩

theorem seq_cut {k : IntKind} {w : World} {a : Option Addr} {n cap m : Nat} {xs : List Int} (h : SeqAt k w (.slice a n cap) xs) (h2 : m ≤ n) : SeqAt k w (.slice a m m) (xs.take m) := by
  have hf := h.front h2
  obtain ⟨a', cap', hv, h3, h4, h5, hc⟩ := hf
  simp only [Value.slice.injEq] at hv
  obtain ⟨rfl, hm, rfl⟩ := hv
  refine ⟨a, m, by rw [← hm], by omega, by omega, fun e => ?_, hc⟩
  have := h5 e
  omega

theorem blk_range {w : World} {b : Nat} {t : TypeId} {cs : Array Value} (hb : Blk w b t cs) : w.rangeAt b 0 cs.toList := fun j v hv => by
  rw [Nat.zero_add, hb.read, ← hv, Array.getElem?_toList]

theorem op_store_row {P : Program} {o : Oper} {a : Act} {w : World} {K : Act → World → Prop} {Q : Exit → Act → World → Prop} (ty : TypeId) (x y : Operand) (ho : o.op = .store ty x y) (hd : o.dst = none)
    (g : Nat) (cells : Array Value) (hx : a.eval x = .pointer (some ⟨g, 0, none⟩)) (hy : a.eval y = .agg cells)
    (t : TypeId) (old : Array Value) (hg : w.heap[g]? = some (.cells old t (0, 0))) (hi : (P.info? ty).map (·.size) = some cells.size)
    (hold : old.size = cells.size) (h1 : cells.all (·.oneCell') = true)
    (h : K a (w.setRow g cells)) : o.wp P a w K Q := wp_store_row ty x y ho g cells hx hy t old hg hi hold h1 (by rw [hd]; exact h)

def BytOut (h : Nat → Int) (c n : Int) (w : World) (e : Ending) (w' : World) : Prop :=
  ∃ v, e = .returned (.tuple #[bytD h c n, v, .int .i64 (bytE c n)]) ∧ SeqAt .u8 w' v (bytL h c n) ∧ Up w w'

theorem Bytes_any (h : Nat → Int) (c n : Int) (w : World) (hT : TabS w) (hB : Byt h) :
    Calls Tryd.prog 16 #[drw h c, .int .i64 n] w (BytOut h c n w) := by
  have HT := hid hT
  have HB := hid hB
  obtain ⟨E, hE⟩ : ∃ E, chkE c n 0 16384 = E := ⟨_, rfl⟩
  have HE := hid hE
  clear hT hB
  have HC := hid (fun w' => check_draw_any h c n 0 16384 w')
  rw [hE] at HC
  clear hE
  unfold drw at HC ⊢
  go_enter Tryd.func16, Tryd.ntmps16
  have hB0 := Blk.new (w := w) (t := 25) (cs := drwA h c) rfl rfl
  have hB1 := Blk.new (w := w.alloc (.cells (drwA h c) 25)) (t := 25) (g := w.heap.size + 1) (by simp) zero33
  go_wp2_with (refine wpList_load_row rfl 25 _ rfl w.heap.size rfl 25 (drwA h c) (0, 0) _ (hB0.alloc _) Tryd.underlying25 rfl (sizeDrw _ _) ?_)
  refine (HC.out _).mono ?_
  rintro e w1 ⟨rfl, hU1⟩
  have HB0 := hid ((hB0.alloc _).up hU1)
  have HB1 := hid (hB1.up hU1)
  have HU1 := hid ((((Up.refl w).alloc _).alloc _).trans hU1)
  clear hU1 hB0 hB1 HC
  obtain ⟨o, ho⟩ : ∃ o, w.heap.size = o := ⟨_, rfl⟩
  have HOo := hid ho
  clear ho
  by_cases h0 : E = 0
  case neg =>
    have d1 : (E != 0) = true := by simpa using h0
    have HVr : Hid (bytD h c n = drw zeroH 0 ∧ bytE c n = E ∧ bytL h c n = []) := hid (by
      have : bytE c n = E := by rw [bytE, HE.out, if_neg h0]
      exact ⟨by rw [bytD, this, if_neg h0], this, by rw [bytL, this, if_neg h0]⟩)
    clear h0
    rw [HOo.out] at HB1
    rw [HOo.out]
    go_wp2_with (refine wpList_store_rowTo rfl 25 _ _ rfl rfl (o + 1) (drwA zeroH 0) ?_ ?_ 25 (drwA zeroH 0) ?_ ?_ ?_ ?_ ?_)
    · rfl
    · exact (congrArg Value.agg zero33)
    · exact HB1.out
    · exact sizeDrw _ _
    · rfl
    · exact drwA_one _ _
    refine bodyPost_ret (v := .tuple #[.agg (drwA zeroH 0), .slice none 0 0, .int .i64 E]) (results_row_tmp2 Tryd.results16 _ _ (o + 1) 25 _ (0, 0) _ (by rfl) (HB1.out.row _) Tryd.underlying25 rfl (sizeDrw _ _)) rfl ⟨.slice none 0 0, by rw [HVr.out.1, HVr.out.2.1]; rfl, by rw [HVr.out.2.2]; exact seq_none, HU1.out.setRow (by have := HOo.out; omega) _⟩
  have hk := chk_iff.1 (HE.out.trans h0)
  have HK := hid hk
  have HEr : Hid (bytE c n = if c + needB n ≤ 1099511627776 then 0 else 5) := hid (by rw [bytE, if_pos (HE.out.trans h0)])
  subst h0
  clear hk HE
  go_wp2_with (first
    | (refine wpList_load_row rfl 25 _ rfl w.heap.size rfl 25 (drwA h c) (0, 0) _ HB0.out Tryd.underlying25 rfl (sizeDrw _ _) ?_)
    | (refine wpList_buildTo rfl 110 _ rfl _ rfl (srcA h c false) (by kernel_rfl) ?_))
  have ho := HOo.out
  have l1 := HB1.out.lt
  have HS2 : Hid (Blk (w1.alloc (.cells (srcA h c false) 110)) w1.heap.size 110 (srcA h c false)) := hid (Blk.new rfl rfl)
  have HO2 := hid (HB0.out.alloc (.cells (srcA h c false) 110))
  have HZ2 := hid (HB1.out.alloc (.cells (srcA h c false) 110))
  have HU2 := hid (HU1.out.alloc (.cells (srcA h c false) 110))
  have HT2 := hid (HT.out.up HU2.out)
  have hsb : w1.heap.size < (w1.alloc (.cells (srcA h c false) 110)).heap.size := by simp
  obtain ⟨b, hb⟩ : ∃ b, w1.heap.size = b := ⟨_, rfl⟩
  obtain ⟨w2, hw2⟩ : ∃ w2, w1.alloc (.cells (srcA h c false) 110) = w2 := ⟨_, rfl⟩
  rw [hb, hw2] at HS2 hsb
  rw [ho, hw2] at HO2 HZ2
  rw [hw2] at HU2 HT2
  have hob : o + 1 < b := by rw [← ho, ← hb]; exact l1
  have HC2 : Hid (c = c + ((0 : Nat) : Int) ∧ 32 * ((0 : Nat) : Int) - 32 < n) := hid ⟨by simp, by have := HK.out.2.1; simp; omega⟩
  rw [ho, hb, hw2]
  obtain ⟨o1, ho1⟩ : ∃ o1, o + 1 = o1 := ⟨_, rfl⟩
  have HO1 := hid ho1
  rw [ho1] at HZ2 hob
  rw [ho1]
  have hoo : o < o1 := by omega
  clear ho ho1 hb hw2 l1 HB0 HB1 HU1
  have hn1 : n ≤ 16384 := HK.out.2.2
  go_loopw [9] (fun vo wr => ∃ (k : Nat) (d : Int) (g : Bool) (p : Option Addr) (m cp : Nat) (L : List Int), vo = .slice p m cp ∧ Hid (m = 32 * k ∧ L.length = m ∧ 32 * (k : Int) - 32 < n) ∧ m ≤ 16416 ∧ Hid (OwnS 5 .u8 wr (b + 1) (.slice p m cp) L) ∧ Hid (0 ≤ d ∧ d ≤ 1099511627776) ∧ Hid (g = false → d = c + k ∧ L = catL h c k) ∧ Hid (g = true → d = 1099511627776 ∧ c + needB n > 1099511627776) ∧ b < wr.heap.size ∧ Hid (Blk wr b 110 (srcA h d g)) ∧ Hid (Blk wr o 25 (drwA h c)) ∧ Hid (Blk wr o1 25 (drwA zeroH 0)) ∧ Hid (Up w wr) ∧ Hid (TabS wr)) (fun vo _ => 16448 - lenOf vo)
  case atStart => exact ⟨0, c, false, none, 0, 0, [], rfl, hid ⟨rfl, rfl, HC2.out.2⟩, by omega, hid own_none, hid HK.out.1, hid (fun _ => ⟨HC2.out.1, rfl⟩), hid (fun h => by cases h), hsb, HS2, HO2, HZ2, HU2, HT2⟩
  case round =>
    clear HS2 HO2 HZ2 HU2 HT2 HC2 hsb
    obtain ⟨k, d, g, p, m, cp, L, rfl, HM, hm, HO, HD, HGf, HGt, hbs, HS, HBo, HZ, HU, HTr⟩ := hrel
    obtain ⟨hm1, hm2, hm3⟩ := HM.out
    by_cases hlt : (m : Int) < n
    · have dl : decide ((m : Int) < n) = true := by simpa using hlt
      cases g with
      | true =>
        have f0 := HS.out.val (srcA_full h d true)
        have hgt := HGt.out rfl
        have HEr5 : Hid (bytE c n = 5) := hid (by rw [HEr.out, if_neg (by omega)])
        have HVr : Hid (bytD h c n = drw zeroH 0 ∧ bytL h c n = []) := hid ⟨by rw [bytD, HEr5.out, if_neg (by decide)], by rw [bytL, HEr5.out, if_neg (by decide)]⟩
        have HRs := hid (fun w' hb => result_any h d true b w' hb)
        clear hgt hm1 hm2 hm3 HM HGt HGf
        go_wp2_with fail
        refine (HRs.out _ HS.out).mono ?_
        rintro e w3 ⟨rfl, hU3⟩
        have HBo3 := hid (HBo.out.up hU3)
        have HZ3 := hid (HZ.out.up hU3)
        have HU3 := hid (HU.out.trans hU3)
        clear hU3 HBo HZ HU HS HRs
        have l3 := HZ3.out.lt
        rw [show (bif true then drw zeroH 0 else drw h d) = .agg (drwA zeroH 0) from rfl, show (bif true then (5 : Int) else 0) = 5 from rfl]
        go_wp2_with (first
          | (refine wpList_store_rowTo rfl 25 _ _ rfl rfl o (drwA zeroH 0) rfl rfl 25 (drwA h c) HBo3.out (sizeDrw _ _) (by rw [drwA_size, drwA_size]) (drwA_one _ _) ?_)
          | (refine wpList_store_rowTo rfl 25 _ _ rfl rfl o1 (drwA zeroH 0) ?_ ?_ 25 (drwA zeroH 0) ?_ ?_ ?_ ?_ ?_))
        · rfl
        · exact (congrArg Value.agg zero33)
        · exact HZ3.out.rowApart (by omega) _
        · exact sizeDrw _ _
        · rfl
        · exact drwA_one _ _
        refine bodyPost_ret (v := .tuple #[.agg (drwA zeroH 0), .slice none 0 0, .int .i64 5]) (results_row_tmp2 Tryd.results16 _ _ o1 25 _ (0, 0) _ (by rfl) ((HZ3.out.rowApart (by omega) _).row _) Tryd.underlying25 rfl (sizeDrw _ _)) rfl ⟨.slice none 0 0, by rw [HVr.out.1, HEr5.out]; rfl, by rw [HVr.out.2]; exact seq_none, (HU3.out.setRow (by have := HOo.out; omega) _).setRow (by have := HOo.out; have := HO1.out; omega) _⟩
      | false =>
        have f0 := HS.out.val (srcA_full h d false)
        have hd := HGf.out rfl
        have HR : Hid (∀ g', g' = blkF d false → ((g' = false → blkC d = c + ((k + 1 : Nat) : Int) ∧ L ++ hList (blkB h d) = catL h c (k + 1)) ∧ (g' = true → blkC d = 1099511627776 ∧ c + needB n > 1099511627776))) := hid (by
          rintro _ rfl
          by_cases hx : d = 1099511627776
          · rw [blkF, if_pos hx, blkC, if_pos hx]
            refine ⟨fun h => by (cases h), fun _ => ⟨hx, ?_⟩⟩
            unfold needB
            omega
          · rw [blkF, if_neg hx, blkC, if_neg hx, blkB, if_neg hx]
            refine ⟨fun _ => ⟨by have := hd.1; simp; omega, ?_⟩, fun h => by (cases h)⟩
            rw [hd.2, catL, hd.1])
        have HCr : Hid (0 ≤ blkC d ∧ blkC d ≤ 1099511627776) := hid (by
          have := HD.out
          unfold blkC
          split <;> omega)
        clear hd HGf HGt
        have hm16 : m ≤ 16384 := by omega
        have HLm : Hid (L.length = m) := hid hm2
        have HM2 : Hid (m + 32 = 32 * (k + 1) ∧ 32 * ((k + 1 : Nat) : Int) - 32 < n ∧ m + 32 ≤ 16416) := hid ⟨by omega, by omega, by omega⟩
        clear hm1 hm2 hm3 HM hm
        go_wp2_with fail
        refine (block_any h d false b _ HTr.out HB.out HS.out HD.out.1 HD.out.2).mono ?_
        rintro e w3 ⟨rfl, hS3, hg3⟩
        have HO3 := hid (own_grown HO.out hg3 (by omega))
        have HBo3 := hid (Blk.grownOut HBo.out hg3 (by omega))
        have HZ3 := hid (Blk.grownOut HZ.out hg3 (by omega))
        have HU3 := hid (Up.grownNew HU.out hg3 (by have := HOo.out; omega))
        have HT3 := hid (HTr.out.grown HS.out hg3)
        have HS3 := hid hS3
        have l3 := hS3.lt
        clear hS3 hg3 HO HBo HZ HU HTr HS f0
        generalize blkC d = d2 at *
        generalize blkF d false = g2 at *
        have HR2 := hid (HR.out _ rfl)
        clear HR
        obtain ⟨Y, hY⟩ : ∃ Y, blkB h d = Y := ⟨_, rfl⟩
        rw [hY] at HR2
        rw [hY]
        clear hY
        unfold hashV
        go_wp2_with (first
          | (refine wpList_store_rowTo rfl 23 _ _ rfl rfl _ _ rfl rfl 23 _ (heap_alloc_new _ _) (by rw [arrK_size]; kernel_rfl) (by rw [arrK_size]; rfl) arrK_one ?_; rw [World.setRow_alloc_new])
          | (at_builtin; refine wp_app infoU8 Tryd.underlying31 (by omega) rfl _ _ rfl (b + 1) rfl rfl (HO3.out.up ((Up.refl w3).alloc _)) (seedAt (h := Y) (Blk.new (cs := arrK .u8 Y 32) rfl rfl) (fun i hi => arrK_get hi)) (by have := HLm.out; simp [hList_length]; omega) (by simp; omega) ?_; intro v4 w4 hO4 hg4))
        have hb4 := below_own (HO3.out.up ((Up.refl w3).alloc (.cells (arrK .u8 Y 32) 23))) hg4 (by simp; omega)
        have HS4 := hid ((HS3.out.alloc _).below hb4 (by omega))
        have HBo4 := hid ((HBo3.out.alloc _).below hb4 (by omega))
        have HZ4 := hid ((HZ3.out.alloc _).below hb4 (by omega))
        have HU4 := hid ((HU3.out.alloc _).own (HO3.out.up ((Up.refl w3).alloc _)) hg4 (by have := HOo.out; omega))
        have HT4 := hid (HT.out.up HU4.out)
        have hbs4 := HS4.out.lt
        have HLm2 : Hid ((L ++ hList Y).length = m + 32) := hid (by rw [List.length_append, HLm.out, hList_length])
        obtain ⟨p4, k4, rfl, _, _⟩ := hO4.shape
        rw [HLm2.out] at hO4
        rw [HLm2.out]
        have HO4 := hid hO4
        clear hO4 hg4 hb4 HO3 HS3 HBo3 HZ3 HU3 HT3 l3
        go_wp2_with fail
        go_roundw
        case rel => exact ⟨k + 1, d2, g2, p4, m + 32, k4, L ++ hList Y, rfl, hid ⟨HM2.out.1, HLm2.out, HM2.out.2.1⟩, HM2.out.2.2, HO4, HCr, hid HR2.out.1, hid HR2.out.2, hbs4, HS4, HBo4, HZ4, HU4, HT4⟩
        case measure => simp; omega
    · have dl : decide ((m : Int) < n) = false := by simpa using hlt
      cases g with
      | true =>
        have hgt := HGt.out rfl
        have HEr5 : Hid (bytE c n = 5) := hid (by rw [HEr.out, if_neg (by omega)])
        have HVr : Hid (bytD h c n = drw zeroH 0 ∧ bytL h c n = []) := hid ⟨by rw [bytD, HEr5.out, if_neg (by decide)], by rw [bytL, HEr5.out, if_neg (by decide)]⟩
        have HRs := hid (fun w' hb => result_any h d true b w' hb)
        clear hgt hm1 hm2 hm3 HM HGt HGf
        go_wp2_with fail
        refine (HRs.out _ HS.out).mono ?_
        rintro e w3 ⟨rfl, hU3⟩
        have HBo3 := hid (HBo.out.up hU3)
        have HZ3 := hid (HZ.out.up hU3)
        have HU3 := hid (HU.out.trans hU3)
        clear hU3 HBo HZ HU HS HRs
        have l3 := HZ3.out.lt
        rw [show (bif true then drw zeroH 0 else drw h d) = .agg (drwA zeroH 0) from rfl, show (bif true then (5 : Int) else 0) = 5 from rfl]
        go_wp2_with (first
          | (refine wpList_store_rowTo rfl 25 _ _ rfl rfl o (drwA zeroH 0) rfl rfl 25 (drwA h c) HBo3.out (sizeDrw _ _) (by rw [drwA_size, drwA_size]) (drwA_one _ _) ?_)
          | (refine wpList_store_rowTo rfl 25 _ _ rfl rfl o1 (drwA zeroH 0) ?_ ?_ 25 (drwA zeroH 0) ?_ ?_ ?_ ?_ ?_))
        · rfl
        · exact (congrArg Value.agg zero33)
        · exact HZ3.out.rowApart (by omega) _
        · exact sizeDrw _ _
        · rfl
        · exact drwA_one _ _
        refine bodyPost_ret (v := .tuple #[.agg (drwA zeroH 0), .slice none 0 0, .int .i64 5]) (results_row_tmp2 Tryd.results16 _ _ o1 25 _ (0, 0) _ (by rfl) ((HZ3.out.rowApart (by omega) _).row _) Tryd.underlying25 rfl (sizeDrw _ _)) rfl ⟨.slice none 0 0, by rw [HVr.out.1, HEr5.out]; rfl, by rw [HVr.out.2]; exact seq_none, (HU3.out.setRow (by have := HOo.out; omega) _).setRow (by have := HOo.out; have := HO1.out; omega) _⟩
      | false =>
        have hd := HGf.out rfl
        have hk : needB n = (k : Int) := by unfold needB; omega
        have HEr0 : Hid (bytE c n = 0) := hid (by rw [HEr.out, if_pos (by have := HD.out.2; omega)])
        have HVr : Hid (bytD h c n = drw h d ∧ bytL h c n = L.take n.toNat) := hid ⟨by rw [bytD, HEr0.out, if_pos rfl, hk, hd.1], by rw [bytL, HEr0.out, if_pos rfl, hk, hd.2, Int.toNat_natCast]⟩
        have HRs := hid (fun w' hb => result_any h d false b w' hb)
        have hn0 : 0 ≤ n := HK.out.2.1
        have hcap : m ≤ cp := by
          obtain ⟨_, _, hv, hl, _⟩ := HO.out.seq.shape
          simp only [Value.slice.injEq] at hv
          omega
        clear hd hk hm1 hm2 hm3 HM HGt HGf
        go_wp2_with fail
        refine (HRs.out _ HS.out).mono ?_
        rintro e w3 ⟨rfl, hU3⟩
        have HBo3 := hid (HBo.out.up hU3)
        have HZ3 := hid (HZ.out.up hU3)
        have HO3 := hid (HO.out.up hU3)
        have HU3 := hid (HU.out.trans hU3)
        clear hU3 HBo HZ HO HU HS HRs
        have l3 := HZ3.out.lt
        rw [show (bif false then drw zeroH 0 else drw h d) = .agg (drwA h d) from rfl, show (bif false then (5 : Int) else 0) = 0 from rfl]
        go_wp2_with (refine wpList_store_rowTo rfl 25 _ _ rfl rfl o (drwA h d) rfl rfl 25 (drwA h c) HBo3.out (sizeDrw _ _) (by rw [drwA_size, drwA_size]) (drwA_one _ _) ?_)
        have HB4 : Hid (Blk (w3.setRow o (drwA h d)) o 25 (drwA h d)) := hid (HBo3.out.row _)
        have HZ4 := hid (HZ3.out.rowApart (k := o) (by omega) (drwA h d))
        have HO4 := hid (own_grown HO3.out (grown_own w3 o (drwA h d)) (by omega))
        have HU4 := hid (HU3.out.setRow (g := o) (by have := HOo.out; omega) (drwA h d))
        generalize w3.setRow o (drwA h d) = w4 at *
        clear HBo3 HZ3 HO3 HU3 l3
        have b0 : (0 : Int) ≤ n := hn0
        have b1 : n ≤ (cp : Int) := by omega
        refine region_E (fun w' => Blk w' o 25 (drwA h d)) 7 (by kernel_rfl) (HB4.out.up (Up.refl _).drew) fun hS => ?_
        refine anyE_take (i := 1) (v := ?_) 48 rfl rfl (by kernel_rfl) (by kernel_rfl) (by decide) (fun _ _ _ h => h) (by kernel_rfl) (by kernel_rfl) (.inl ⟨by rfl, fun u hu => ?_⟩) hS ?_
        rotate_left
        · (go_simp; first | done | with_reducible rfl)
        simp only [Act.put, List.setIfInBounds_toArray, List.set_cons_zero, List.set_cons_succ]
        refine anyE_take (i := 2) (v := ?_) 49 rfl rfl (by kernel_rfl) (by kernel_rfl) (by decide) (fun _ _ _ h => h) (by kernel_rfl) (by kernel_rfl) (.inl ⟨by rfl, fun u hu => ?_⟩) hS ?_
        rotate_left
        · (go_simp; first | done | with_reducible rfl)
        simp only [Act.put, List.setIfInBounds_toArray, List.set_cons_zero, List.set_cons_succ]
        refine anyE_take (i := 3) (v := ?_) 50 rfl rfl (by kernel_rfl) (by kernel_rfl) (by decide) (fun _ _ _ h => h) (by kernel_rfl) (by kernel_rfl) (.inl ⟨by rfl, fun u hu => ?_⟩) hS ?_
        rotate_left
        · (go_simp; first | done | with_reducible rfl)
        simp only [Act.put, List.setIfInBounds_toArray, List.set_cons_zero, List.set_cons_succ]
        refine anyE_take (i := 4) (v := ?_) 51 rfl rfl (by kernel_rfl) (by kernel_rfl) (by decide) (fun _ _ _ h => h) (by kernel_rfl) (by kernel_rfl) (.inl ⟨by rfl, fun u hu => ?_⟩) hS ?_
        rotate_left
        · (go_simp; first | done | with_reducible rfl)
        simp only [Act.put, List.setIfInBounds_toArray, List.set_cons_zero, List.set_cons_succ]
        refine anyE_take (i := 0) (v := .agg (drwA h d).toList.toArray) 47 rfl rfl (by kernel_rfl) (by kernel_rfl) (by decide) (fun _ _ _ h => h) (by kernel_rfl) (by kernel_rfl) (yieldsIf_load_mid (by rfl) 25 _ rfl o 0 rfl (drwA h d).toList _ (fun u hu => blk_range hu) Tryd.underlying25 rfl (by rw [Array.length_toList]; exact sizeDrw _ _)) hS ?_
        rw [Array.toArray_toList]
        simp only [Act.put, List.setIfInBounds_toArray, List.set_cons_zero, List.set_cons_succ]
        refine anyE_one (i := 5) rfl (by kernel_rfl) rfl (fun K hK => ?_)
        refine op_store_row 25 _ _ rfl rfl o1 (drwA h d) rfl rfl 25 (drwA zeroH 0) (HZ4.out.up (Up.refl _).drew) (sizeDrw _ _) (by rw [drwA_size, drwA_size]) (drwA_one _ _) ?_
        have hS5 : Blk (w4.drew.setRow o1 (drwA h d)) o 25 (drwA h d) := Blk.rowApart hS (by omega) _
        refine hK.out _ _ (.inr hS5) ?_
        clear hK
        refine anyE_take (i := 6) (v := ?_) 5 rfl rfl (by kernel_rfl) (by kernel_rfl) (by decide) (fun _ _ _ h => h) (by kernel_rfl) (by kernel_rfl) (.inl ⟨by rfl, fun u hu => ?_⟩) hS5 ?_
        rotate_left
        · (go_simp; first | done | with_reducible rfl)
        simp only [Act.put, List.setIfInBounds_toArray, List.set_cons_zero, List.set_cons_succ]
        refine anyE_one (i := 7) rfl (by kernel_rfl) rfl (fun K hK => ?_)
        go_simp
        refine hK.out _ _ (.inl rfl) (anyE_done (by kernel_rfl) ?_ _)
        clear hK
        go_wp2
        refine bodyPost_ret (v := .tuple #[.agg (drwA h d), .slice p n.toNat n.toNat, .int .i64 0]) (results_row_tmp2 Tryd.results16 _ _ o1 25 _ (0, 0) _ (by rfl) ((HZ4.out.up (Up.refl _).drew).row _) Tryd.underlying25 rfl (sizeDrw _ _)) rfl ⟨.slice p n.toNat n.toNat, by rw [HVr.out.1, HEr0.out]; rfl, ?_, (HU4.out.drew).setRow (by have := HOo.out; have := HO1.out; omega) _⟩
        rw [HVr.out.2]
        exact seq_cut (own_grown (HO4.out.up (Up.refl _).drew) (grown_own w4.drew o1 (drwA h d)) (by omega)).seq (by omega)
end Go.Proofs.YtdlcmpbpdbpanaaDoor
