/- Package transcript: the hash of a frame. Package draw: Next. Package draw: Nonzero. Package draw: New. -/
import Derived.Test.YtdlcmpbpdbpanaaDoorMB17
import Derived.Test.YtdlcmpbpdbpanaaDoorMB8
namespace Go.Proofs.YtdlcmpbpdbpanaaDoor
open Go.RowKit Go.Sp
set_option maxHeartbeats 4000000
set_option maxRecDepth 20000

theorem frameE_byt {h : Nat → Int} {s : List Int} {more : List (List Int)} (hB : Byt h) (hs : ∀ x ∈ s, 0 ≤ x ∧ x ≤ 255) (hm : ∀ e ∈ more, ∀ x ∈ e, 0 ≤ x ∧ x ≤ 255) : ∀ x ∈ frameE h s more, 0 ≤ x ∧ x ≤ 255 := by
  refine encList_byt fun e he => ?_
  simp only [List.mem_cons] at he
  rcases he with rfl | rfl | he
  · exact encBytes_byt (hList_bytes hB)
  · exact encBytes_byt hs
  · exact hm e he

theorem zero32h : #[.int .u8 0, .int .u8 0, .int .u8 0, .int .u8 0, .int .u8 0, .int .u8 0, .int .u8 0, .int .u8 0, .int .u8 0, .int .u8 0, .int .u8 0, .int .u8 0, .int .u8 0, .int .u8 0, .int .u8 0, .int .u8 0, .int .u8 0, .int .u8 0, .int .u8 0, .int .u8 0, .int .u8 0, .int .u8 0, .int .u8 0, .int .u8 0, .int .u8 0, .int .u8 0, .int .u8 0, .int .u8 0, .int .u8 0, .int .u8 0, .int .u8 0, .int .u8 0] = arrK .u8 (fun _ => 0) 32 := by kernel_rfl

/-- What a frame's two first items are. -/
def frQ (o o2 n cp : Nat) : List Quad := [⟨2, 0, .slice (some ⟨o, 0, none⟩) 32 32, nilS⟩, ⟨2, 0, .slice (some ⟨o2, 0, none⟩) n cp, nilS⟩]
theorem frQ_at {w : World} {o o2 cp d : Nat} {cs : Array Value} {t : TypeId} {h : Nat → Int} {s : ByteArray} (hb : Blk w o t cs) (hg : ∀ i, i < 32 → cs[i]? = some (.int .u8 (h i))) (hB : Byt h) (hs : SeqAt .u8 w (.slice (some ⟨o2, 0, none⟩) s.size cp) (txt s)) (hl : s.size ≤ 24) :
    QuadAt w d (frQ o o2 s.size cp) [encBytes (hList h), encBytes (txt s)] := by
  have h1 : QuadAt w d [⟨2, 0, .slice (some ⟨o, 0, none⟩) 32 32, nilS⟩] [encBytes (hList h)] := QuadAt.one (itm_bytes (seedAt hb hg) (by rw [hList_length]; omega) (hList_bytes hB) d)
  have h2 : QuadAt w d [⟨2, 0, .slice (some ⟨o2, 0, none⟩) s.size cp, nilS⟩] [encBytes (txt s)] := QuadAt.one (itm_bytes hs (by rw [txt_length]; omega) (txt_byt s) d)
  exact h1.app h2

theorem thash_one (tag : ByteArray) (h : Nat → Int) (c : Int) (s : ByteArray) (g0 : Nat) (q : Quad) (es : List Int) (w : World) (hT : TabS w) (hB : Byt h) (ht0 : 1 ≤ tag.size) (ht1 : tag.size ≤ 100) (hs : Lab s)
    (hc : ItmCells w g0 0 q.k q.n q.b q.l) (hq : ItmAt w 6 q.k q.n q.b q.l es) (hl : es.length ≤ 16000) (hes : ∀ x ∈ es, 0 ≤ x ∧ x ≤ 255) :
    Calls Tryd.prog 140 #[.string tag, drw h c, .string s, .slice (some ⟨g0, 0, none⟩) 1 1] w fun e w' => e = .returned (.tuple #[hashV (tagB (txt tag) (frameE h (txt s) [es])), .int .i64 0]) ∧ Up w w' := by
  obtain ⟨F, hF⟩ : ∃ F, frameE h (txt s) [es] = F := ⟨_, rfl⟩
  have HF : Hid (F = encList [encBytes (hList h), encBytes (txt s), es]) := hid hF.symm
  have hFl : F.length ≤ 16384 := by rw [← hF, frameE_length, txt_length]; have := hs.max; simp; omega
  have hFb : ∀ x ∈ F, 0 ≤ x ∧ x ≤ 255 := by
    rw [← hF]
    exact frameE_byt hB (txt_byt s) (fun e he => by
      simp at he
      subst he
      exact hes)
  have HTg := hid (fun w' (v' : Value) (hU : Up w w') (hv' : SeqAt .u8 w' v' F) => Tagged_any tag v' F w' (hT.up hU) ht0 ht1 hv' (by omega) hFb)
  rw [hF]
  generalize tagB (txt tag) F = R at *
  have HL := hid hs
  have HC := hid hc
  have HQ := hid hq
  have HBh := hid hB
  have HFl := hid hFl
  have hget := fun i (hi : i < 32) => drwA_get h c hi
  have HG := hid hget
  have d2 : s.size ≤ 24 := hs.max
  have hcv := fun w' => run_bytes_of_string (P := Tryd.prog) w' 9 31 5 s Tryd.underlying9 Tryd.underlying31 Tryd.underlying5
  unfold drw
  generalize drwA h c = cs at *
  clear hT hB ht0 ht1 hs hc hq hl hes hF hFl hFb hget
  obtain ⟨o, ho⟩ : ∃ o, w.heap.size = o := ⟨_, rfl⟩
  have HO := hid ho
  obtain ⟨o1, ho1⟩ : ∃ o1, o + 1 = o1 := ⟨_, rfl⟩
  have HO1 := hid ho1
  obtain ⟨o2, ho2⟩ : ∃ o2, o1 + 1 = o2 := ⟨_, rfl⟩
  have HO2 := hid ho2
  obtain ⟨o3, ho3⟩ : ∃ o3, o2 + 1 = o3 := ⟨_, rfl⟩
  have HO3 := hid ho3
  clear ho ho1 ho2 ho3
  go_enter Tryd.func140, Tryd.ntmps140
  go_wp2_with (at_builtin; refine stopHere ?_)
  clear hcv
  unfold Hid
  generalize hcp : grownCap _ _ _ _ = cp
  generalize hW : World.alloc _ _ = w0
  have hc0 : s.size ≤ cp := by rw [← hcp]; exact cap_ge
  have hc1 : cp ≤ 9223372036854775807 := by rw [← hcp]; exact cap_le (by omega)
  have HU0 : Hid (Up w w0.drew) := hid (by rw [← hW]; exact (((((Up.refl w).alloc _).alloc _).alloc _).alloc _).drew)
  have HS0 : Hid (Blk w0.drew o 141 cs) := hid (by rw [← hW]; exact ((((Blk.new HO.out rfl).alloc _).alloc _).alloc _).up (Up.refl _).drew)
  have HZ0 : Hid (Blk w0.drew o1 23 (arrK .u8 (fun _ => 0) 32)) := hid (by rw [← hW]; exact (((Blk.new (by have := HO.out; have := HO1.out; simp; omega) zero32h).alloc _).alloc _).up (Up.refl _).drew)
  have HX0 : Hid (SeqAt .u8 w0.drew (.slice (some ⟨o2, 0, none⟩) s.size cp) (txt s)) := hid (by
    rw [← hW]
    have h := seq_text ((w.alloc (.cells cs 141)).alloc (.cells #[.int .u8 0, .int .u8 0, .int .u8 0, .int .u8 0, .int .u8 0, .int .u8 0, .int .u8 0, .int .u8 0, .int .u8 0, .int .u8 0, .int .u8 0, .int .u8 0, .int .u8 0, .int .u8 0, .int .u8 0, .int .u8 0, .int .u8 0, .int .u8 0, .int .u8 0, .int .u8 0, .int .u8 0, .int .u8 0, .int .u8 0, .int .u8 0, .int .u8 0, .int .u8 0, .int .u8 0, .int .u8 0, .int .u8 0, .int .u8 0, .int .u8 0, .int .u8 0] 23)) s cp 5 ((bytesRow s cp).size, (bytesRow s cp).size + 1) hc0 hc1
    rw [show ((w.alloc (.cells cs 141)).alloc (.cells #[.int .u8 0, .int .u8 0, .int .u8 0, .int .u8 0, .int .u8 0, .int .u8 0, .int .u8 0, .int .u8 0, .int .u8 0, .int .u8 0, .int .u8 0, .int .u8 0, .int .u8 0, .int .u8 0, .int .u8 0, .int .u8 0, .int .u8 0, .int .u8 0, .int .u8 0, .int .u8 0, .int .u8 0, .int .u8 0, .int .u8 0, .int .u8 0, .int .u8 0, .int .u8 0, .int .u8 0, .int .u8 0, .int .u8 0, .int .u8 0, .int .u8 0, .int .u8 0] 23)).heap.size = o2 by have := HO.out; have := HO1.out; have := HO2.out; simp; omega] at h
    exact (h.up ((Up.refl _).alloc _)).up (Up.refl _).drew)
  have HQ0 : Hid (OwnQ 87 w0.drew o3 (.slice (some ⟨o3, 0, none⟩) 2 2) (frQ o o2 s.size cp)) := hid (by
    rw [← hW, HO.out, HO1.out, HO2.out]
    exact (own_two (by have := HO.out; have := HO1.out; have := HO2.out; have := HO3.out; simp; omega) (Nat.le_refl _)).up (Up.refl _).drew)
  rw [HO.out, HO1.out, HO2.out, HO3.out]
  clear hcp hW
  have hz : o3 ≤ w0.drew.heap.size := by have := OwnQ.inside HQ0.out o3 rfl; omega
  generalize w0.drew = w1 at *
  refine wp_appQ infoItm rfl Tryd.underlying85 (by omega) rfl _ _ rfl o3 rfl HQ0.out g0 1 (news := [q]) rfl (fun j hj => by
    obtain rfl : j = 0 := by simp at hj; omega
    exact HC.out.up HU0.out) (fun j hj => by
    obtain rfl : j = 0 := by simp at hj; omega
    exact HQ.out.one) (by simp [frQ]) hz ?_
  intro v3 w3 hO3 hg3
  have hB3 := HQ0.out.below hg3 hz
  have HU3 := hid (up_below HU0.out hB3 (by have := HO.out; have := HO1.out; have := HO2.out; have := HO3.out; omega))
  have HS3 := hid (HS0.out.below hB3 (by have := HO1.out; have := HO2.out; have := HO3.out; omega))
  have HZ3 := hid (HZ0.out.below hB3 (by have := HO2.out; have := HO3.out; omega))
  have HX3 := hid (HX0.out.below hB3 (fun b off n c he => by
    have := (Value.slice.inj he).1
    injection this with this
    injection this with this _ _
    have := HO3.out
    omega))
  have HIt : Hid (ItmAt w3 7 3 0 nilS v3 F) := hid (by
    rw [HF.out]
    exact itm_list (hO3.row ((frQ_at HS3.out HG.out HBh.out HX3.out d2).app (QuadAt.one (HQ.out.up HU3.out)))) (by simp))
  obtain ⟨a3, c3, rfl⟩ := hO3.shape
  change Hid (ItmAt w3 7 3 0 nilS (.slice a3 3 c3) F) at HIt
  change wpList _ _ _ _ (Act.put _ _ (.slice a3 3 c3)) _
  clear hO3 hg3 hB3 HX3 HS3 HX0 HS0 HQ0 HU0 HZ0 hz
  go_wp2_with fail
  refine (Encode_short HIt.out (by omega) HFl.out).mono ?_
  rintro e w4 ⟨v4, rfl, hO4, hU4⟩
  have HO4 := hid hO4.seq
  have HZ4 := hid (HZ3.out.up hU4)
  have HU4 := hid (HU3.out.trans hU4)
  clear hO4 hU4 HZ3 HU3 HIt
  go_wp2_with fail
  refine (HTg.out _ _ HU4.out HO4.out).mono ?_
  rintro e w5 ⟨rfl, hU5⟩
  have HZ5 := hid (HZ4.out.up hU5)
  have HU5 := hid (HU4.out.trans hU5)
  clear hU5 HZ4 HU4 HO4
  unfold hashV
  go_wp2_with (first | (refine wpList_store_rowTo rfl 23 _ _ rfl rfl o1 (arrK .u8 R 32) rfl rfl 23 (arrK .u8 (fun _ => 0) 32) HZ5.out (by rw [arrK_size]; kernel_rfl) (by rw [arrK_size, arrK_size]) arrK_one ?_))
  refine bodyPost_ret (v := .tuple #[.agg (arrK .u8 R 32), .int .i64 0]) (results_row_tmp Tryd.results140 _ _ o1 23 _ (0, 0) _ (by rfl) (HZ5.out.row _) Tryd.underlying23 rfl (by rw [arrK_size]; kernel_rfl)) rfl ⟨rfl, HU5.out.setRow (by have := HO.out; have := HO1.out; omega) _⟩

theorem thash_none (tag : ByteArray) (h : Nat → Int) (c : Int) (s : ByteArray) (w : World) (hT : TabS w) (hB : Byt h) (ht0 : 1 ≤ tag.size) (ht1 : tag.size ≤ 100) (hs : Lab s) :
    Calls Tryd.prog 140 #[.string tag, drw h c, .string s, nilS] w fun e w' => e = .returned (.tuple #[hashV (tagB (txt tag) (frameE h (txt s) [])), .int .i64 0]) ∧ Up w w' := by
  obtain ⟨F, hF⟩ : ∃ F, frameE h (txt s) [] = F := ⟨_, rfl⟩
  have HF : Hid (F = encList [encBytes (hList h), encBytes (txt s)]) := hid hF.symm
  have hFl : F.length ≤ 16384 := by rw [← hF, frameE_length, txt_length]; have := hs.max; simp; omega
  have hFb : ∀ x ∈ F, 0 ≤ x ∧ x ≤ 255 := by
    rw [← hF]
    exact frameE_byt hB (txt_byt s) (fun e he => by
      simp at he)
  have HTg := hid (fun w' (v' : Value) (hU : Up w w') (hv' : SeqAt .u8 w' v' F) => Tagged_any tag v' F w' (hT.up hU) ht0 ht1 hv' (by omega) hFb)
  rw [hF]
  generalize tagB (txt tag) F = R at *
  have HL := hid hs
  have HBh := hid hB
  have HFl := hid hFl
  have hget := fun i (hi : i < 32) => drwA_get h c hi
  have HG := hid hget
  have d2 : s.size ≤ 24 := hs.max
  have hcv := fun w' => run_bytes_of_string (P := Tryd.prog) w' 9 31 5 s Tryd.underlying9 Tryd.underlying31 Tryd.underlying5
  unfold drw
  generalize drwA h c = cs at *
  clear hT hB ht0 ht1 hs hF hFl hFb hget
  obtain ⟨o, ho⟩ : ∃ o, w.heap.size = o := ⟨_, rfl⟩
  have HO := hid ho
  obtain ⟨o1, ho1⟩ : ∃ o1, o + 1 = o1 := ⟨_, rfl⟩
  have HO1 := hid ho1
  obtain ⟨o2, ho2⟩ : ∃ o2, o1 + 1 = o2 := ⟨_, rfl⟩
  have HO2 := hid ho2
  obtain ⟨o3, ho3⟩ : ∃ o3, o2 + 1 = o3 := ⟨_, rfl⟩
  have HO3 := hid ho3
  clear ho ho1 ho2 ho3
  go_enter Tryd.func140, Tryd.ntmps140
  go_wp2_with (at_builtin; refine stopHere ?_)
  clear hcv
  unfold Hid
  generalize hcp : grownCap _ _ _ _ = cp
  generalize hW : World.alloc _ _ = w0
  have hc0 : s.size ≤ cp := by rw [← hcp]; exact cap_ge
  have hc1 : cp ≤ 9223372036854775807 := by rw [← hcp]; exact cap_le (by omega)
  have HU0 : Hid (Up w w0.drew) := hid (by rw [← hW]; exact (((((Up.refl w).alloc _).alloc _).alloc _).alloc _).drew)
  have HS0 : Hid (Blk w0.drew o 141 cs) := hid (by rw [← hW]; exact ((((Blk.new HO.out rfl).alloc _).alloc _).alloc _).up (Up.refl _).drew)
  have HZ0 : Hid (Blk w0.drew o1 23 (arrK .u8 (fun _ => 0) 32)) := hid (by rw [← hW]; exact (((Blk.new (by have := HO.out; have := HO1.out; simp; omega) zero32h).alloc _).alloc _).up (Up.refl _).drew)
  have HX0 : Hid (SeqAt .u8 w0.drew (.slice (some ⟨o2, 0, none⟩) s.size cp) (txt s)) := hid (by
    rw [← hW]
    have h := seq_text ((w.alloc (.cells cs 141)).alloc (.cells #[.int .u8 0, .int .u8 0, .int .u8 0, .int .u8 0, .int .u8 0, .int .u8 0, .int .u8 0, .int .u8 0, .int .u8 0, .int .u8 0, .int .u8 0, .int .u8 0, .int .u8 0, .int .u8 0, .int .u8 0, .int .u8 0, .int .u8 0, .int .u8 0, .int .u8 0, .int .u8 0, .int .u8 0, .int .u8 0, .int .u8 0, .int .u8 0, .int .u8 0, .int .u8 0, .int .u8 0, .int .u8 0, .int .u8 0, .int .u8 0, .int .u8 0, .int .u8 0] 23)) s cp 5 ((bytesRow s cp).size, (bytesRow s cp).size + 1) hc0 hc1
    rw [show ((w.alloc (.cells cs 141)).alloc (.cells #[.int .u8 0, .int .u8 0, .int .u8 0, .int .u8 0, .int .u8 0, .int .u8 0, .int .u8 0, .int .u8 0, .int .u8 0, .int .u8 0, .int .u8 0, .int .u8 0, .int .u8 0, .int .u8 0, .int .u8 0, .int .u8 0, .int .u8 0, .int .u8 0, .int .u8 0, .int .u8 0, .int .u8 0, .int .u8 0, .int .u8 0, .int .u8 0, .int .u8 0, .int .u8 0, .int .u8 0, .int .u8 0, .int .u8 0, .int .u8 0, .int .u8 0, .int .u8 0] 23)).heap.size = o2 by have := HO.out; have := HO1.out; have := HO2.out; simp; omega] at h
    exact (h.up ((Up.refl _).alloc _)).up (Up.refl _).drew)
  have HQ0 : Hid (OwnQ 87 w0.drew o3 (.slice (some ⟨o3, 0, none⟩) 2 2) (frQ o o2 s.size cp)) := hid (by
    rw [← hW, HO.out, HO1.out, HO2.out]
    exact (own_two (by have := HO.out; have := HO1.out; have := HO2.out; have := HO3.out; simp; omega) (Nat.le_refl _)).up (Up.refl _).drew)
  rw [HO.out, HO1.out, HO2.out, HO3.out]
  clear hcp hW
  have hz : o3 ≤ w0.drew.heap.size := by have := OwnQ.inside HQ0.out o3 rfl; omega
  generalize w0.drew = w1 at *
  refine wp_appQ_none infoItm Tryd.underlying85 rfl _ _ rfl o3 rfl HQ0.out rfl ?_
  have HIt : Hid (ItmAt w1 7 3 0 nilS (.slice (some ⟨o3, 0, none⟩) 2 2) F) := hid (by
    rw [HF.out]
    exact itm_list (HQ0.out.row (frQ_at HS0.out HG.out HBh.out HX0.out d2)) (by simp))
  have HU3 := HU0
  have HZ3 := HZ0
  clear HX0 HS0 HQ0 HU0 HZ0 hz
  go_wp2_with fail
  refine (Encode_short HIt.out (by omega) HFl.out).mono ?_
  rintro e w4 ⟨v4, rfl, hO4, hU4⟩
  have HO4 := hid hO4.seq
  have HZ4 := hid (HZ3.out.up hU4)
  have HU4 := hid (HU3.out.trans hU4)
  clear hO4 hU4 HZ3 HU3 HIt
  go_wp2_with fail
  refine (HTg.out _ _ HU4.out HO4.out).mono ?_
  rintro e w5 ⟨rfl, hU5⟩
  have HZ5 := hid (HZ4.out.up hU5)
  have HU5 := hid (HU4.out.trans hU5)
  clear hU5 HZ4 HU4 HO4
  unfold hashV
  go_wp2_with (first | (refine wpList_store_rowTo rfl 23 _ _ rfl rfl o1 (arrK .u8 R 32) rfl rfl 23 (arrK .u8 (fun _ => 0) 32) HZ5.out (by rw [arrK_size]; kernel_rfl) (by rw [arrK_size, arrK_size]) arrK_one ?_))
  refine bodyPost_ret (v := .tuple #[.agg (arrK .u8 R 32), .int .i64 0]) (results_row_tmp Tryd.results140 _ _ o1 23 _ (0, 0) _ (by rfl) (HZ5.out.row _) Tryd.underlying23 rfl (by rw [arrK_size]; kernel_rfl)) rfl ⟨rfl, HU5.out.setRow (by have := HO.out; have := HO1.out; omega) _⟩

end Go.Proofs.YtdlcmpbpdbpanaaDoor
namespace Go.Proofs.YtdlcmpbpdbpanaaDoor
open Go.RowKit Go.Sp
set_option maxHeartbeats 2000000
set_option maxRecDepth 20000

/-- What Next returns. -/
def nxtV (h : Nat → Int) (c q : Int) : Value :=
  if chkE c q 1 2305843009213693951 = 0 then .tuple #[bif (numT h q 256 c 0).2.2 then drw zeroH 0 else drw h (numT h q 256 c 0).2.1, .int .i64 (numT h q 256 c 0).1, .int .i64 (bif (numT h q 256 c 0).2.2 then 5 else 0)]
  else .tuple #[drw zeroH 0, .int .i64 0, .int .i64 (chkE c q 1 2305843009213693951)]

theorem chk_iff {c n lo hi : Int} : chkE c n lo hi = 0 ↔ (0 ≤ c ∧ c ≤ 1099511627776) ∧ lo ≤ n ∧ n ≤ hi := by
  unfold chkE
  rw [← dvB_iff]
  by_cases h1 : dvB c = true
  · by_cases h2 : lo ≤ n ∧ n ≤ hi
    · simp [h1, h2]
    · simp [h1, h2]
  · simp [h1]

theorem Up.grownNew {w w1 w2 : World} {b : Nat} (hU : Up w w1) (hg : w1.grownBy w2 (some b)) (hb : w.heap.size ≤ b) : Up w w2 :=
  Below.grown hU.below hg hU.size (fun k hk => by simp at hk; omega)

theorem Next_any (h : Nat → Int) (c q : Int) (w : World) (hT : TabS w) (hB : Byt h) :
    Calls Tryd.prog 15 #[drw h c, .int .i64 q] w fun e w' => e = .returned (nxtV h c q) ∧ Up w w' := by
  have HT := hid hT
  have HB := hid hB
  obtain ⟨E, hE⟩ : ∃ E, chkE c q 1 2305843009213693951 = E := ⟨_, rfl⟩
  have HE := hid hE
  obtain ⟨V, hV⟩ : ∃ V, nxtV h c q = V := ⟨_, rfl⟩
  have HV := hid hV
  rw [hV]
  clear hT hB hV
  have HC := hid (fun w' => check_draw_any h c q 1 2305843009213693951 w')
  rw [hE] at HC
  clear hE
  unfold drw at HC ⊢
  go_enter Tryd.func15, Tryd.ntmps15
  have hB0 := Blk.new (w := w) (t := 25) (cs := drwA h c) rfl rfl
  have hB1 := Blk.new (w := w.alloc (.cells (drwA h c) 25)) (t := 25) (g := w.heap.size + 1) (by simp) zero33
  go_wp2_with (refine wpList_load_row rfl 25 _ rfl w.heap.size rfl 25 (drwA h c) (0, 0) _ (hB0.alloc _) Tryd.underlying25 rfl (sizeDrw _ _) ?_)
  refine (HC.out _).mono ?_
  rintro e w1 ⟨rfl, hU1⟩
  have HB0 := hid ((hB0.alloc _).up hU1)
  have HB1 := hid (hB1.up hU1)
  have HU1 := hid ((((Up.refl w).alloc _).alloc _).trans hU1)
  clear hU1 hB0 hB1 HC
  by_cases h0 : E = 0
  case neg =>
    have d1 : (E != 0) = true := by simpa using h0
    have HVr : Hid (V = .tuple #[drw zeroH 0, .int .i64 0, .int .i64 E]) := hid (by rw [← HV.out, nxtV, HE.out, if_neg h0])
    clear h0
    obtain ⟨o, ho⟩ : ∃ o, w.heap.size + 1 = o := ⟨_, rfl⟩
    have HOo := hid ho
    rw [ho] at HB1
    rw [ho]
    clear ho
    go_wp2_with (refine wpList_store_rowTo rfl 25 _ _ rfl rfl o (drwA zeroH 0) ?_ ?_ 25 (drwA zeroH 0) ?_ ?_ ?_ ?_ ?_)
    · rfl
    · exact (congrArg Value.agg zero33)
    · exact HB1.out
    · exact sizeDrw _ _
    · rfl
    · exact drwA_one _ _
    refine bodyPost_ret (v := .tuple #[.agg (drwA zeroH 0), .int .i64 0, .int .i64 E]) (results_row_tmp2 Tryd.results15 _ _ o 25 _ (0, 0) _ (by rfl) (HB1.out.row _) Tryd.underlying25 rfl (sizeDrw _ _)) rfl ⟨by rw [HVr.out]; rfl, HU1.out.setRow (by have := HOo.out; omega) _⟩
  have hk := chk_iff.1 (HE.out.trans h0)
  have HK := hid hk
  have HVr : Hid (V = .tuple #[bif (numT h q 256 c 0).2.2 then drw zeroH 0 else drw h (numT h q 256 c 0).2.1, .int .i64 (numT h q 256 c 0).1, .int .i64 (bif (numT h q 256 c 0).2.2 then 5 else 0)]) := hid (by rw [← HV.out, nxtV, if_pos (HE.out.trans h0)])
  subst h0
  clear hk HE HV
  go_wp2_with (first
    | (refine wpList_load_row rfl 25 _ rfl w.heap.size rfl 25 (drwA h c) (0, 0) _ HB0.out Tryd.underlying25 rfl (sizeDrw _ _) ?_)
    | (refine wpList_buildTo rfl 110 _ rfl _ rfl (srcA h c false) (by kernel_rfl) ?_))
  refine (number_any h c false q w1.heap.size _ ((HT.out.up HU1.out).up ((Up.refl _).alloc _)) HB.out (Blk.new rfl rfl) HK.out.1.1 HK.out.1.2 (fun h => by cases h) HK.out.2.1 HK.out.2.2).mono ?_
  rintro e w2 ⟨rfl, hS2, hg2⟩
  have l0 := HB0.out.lt
  have l1 := HB1.out.lt
  have HB2 := hid (Blk.grownOut (HB0.out.alloc (.cells (srcA h c false) 110)) hg2 (by omega))
  have HZ2 := hid (Blk.grownOut (HB1.out.alloc (.cells (srcA h c false) 110)) hg2 (by omega))
  have HU2 := hid (Up.grownNew (HU1.out.alloc (.cells (srcA h c false) 110)) hg2 (by omega))
  have HS2 := hid hS2
  generalize (numT h q 256 c 0).1 = n at *
  generalize (numT h q 256 c 0).2.1 = c2 at *
  generalize (numT h q 256 c 0).2.2 = F at *
  obtain ⟨D, hD, hD1, hD2⟩ : ∃ D, (bif F then drw zeroH 0 else drw h c2) = .agg D ∧ D.size = 33 ∧ D.all (·.oneCell') = true := by
    cases F with
    | true => exact ⟨_, rfl, drwA_size _ _, drwA_one _ _⟩
    | false => exact ⟨_, rfl, drwA_size _ _, drwA_one _ _⟩
  have HR := hid (fun w' hb => result_any h c2 F w1.heap.size w' hb)
  rw [hD] at HVr HR
  have hD3 : (Tryd.prog.info? 25).map (·.size) = some D.size := by rw [hD1]; kernel_rfl
  have HD1 := hid hD1
  have HD2 := hid hD2
  have HD3 := hid hD3
  obtain ⟨f, hf⟩ : ∃ f : Int, (bif F then 5 else 0) = f := ⟨_, rfl⟩
  rw [hf] at HVr HR
  obtain ⟨o, ho⟩ : ∃ o, w.heap.size = o := ⟨_, rfl⟩
  have HOo := hid ho
  rw [ho] at HB2 HZ2
  rw [ho]
  clear hS2 hg2 l0 l1 hD hD1 hD2 hD3 hf HB0 HB1 ho
  go_wp2_with fail
  refine (HR.out _ HS2.out).mono ?_
  rintro e w3 ⟨rfl, hU3⟩
  have HB3 := hid (HB2.out.up hU3)
  have HZ3 := hid (HZ2.out.up hU3)
  have HU3 := hid (HU2.out.trans hU3)
  clear hU3 HB2 HZ2 HU2 HS2 HR
  go_wp2_with (first
    | (refine wpList_store_rowTo rfl 25 _ _ rfl rfl o D rfl rfl 25 (drwA h c) HB3.out HD3.out (by rw [HD1.out, drwA_size]) HD2.out ?_)
    | (refine wpList_load_row rfl 25 _ rfl o rfl 25 D (0, 0) _ (HB3.out.row _) Tryd.underlying25 rfl HD3.out ?_)
    | (refine wpList_store_rowTo rfl 25 _ _ rfl rfl (o + 1) D rfl rfl 25 (drwA zeroH 0) (HZ3.out.rowApart (by omega) _) HD3.out (by rw [HD1.out, drwA_size]) HD2.out ?_))
  refine bodyPost_ret (v := .tuple #[.agg D, .int .i64 n, .int .i64 f]) (results_row_tmp2 Tryd.results15 _ _ (o + 1) 25 _ (0, 0) _ (by rfl) ((HZ3.out.rowApart (by omega) _).row _) Tryd.underlying25 rfl HD3.out) rfl ⟨by rw [HVr.out], (HU3.out.setRow (by have := HOo.out; omega) _).setRow (by have := HOo.out; omega) _⟩
end Go.Proofs.YtdlcmpbpdbpanaaDoor
namespace Go.Proofs.YtdlcmpbpdbpanaaDoor
open Go.RowKit Go.Sp
set_option maxHeartbeats 2000000
set_option maxRecDepth 20000

theorem numT_range {h : Nat → Int} {q : Int} : ∀ (n : Nat) (c x : Int), 0 ≤ c → c ≤ 1099511627776 → c ≤ (numT h q n c x).2.1 ∧ (numT h q n c x).2.1 ≤ 1099511627776
  | 0, c, x, h0, h1 => ⟨Int.le_refl _, h1⟩
  | n + 1, c, x, h0, h1 => by
    by_cases hc : c = 1099511627776
    · rw [numT, if_pos hc]; exact ⟨Int.le_refl _, h1⟩
    · rw [numT, if_neg hc]
      split
      · exact ⟨by simp; omega, by simp; omega⟩
      · have := numT_range (h := h) (q := q) n (c + 1) (firK (shaB (posL h c)) 8 % 2 ^ maskN q) (by omega) (by omega)
        omega

/-- A number other than 0: the number, the counter, and whether there was no block. -/
def nzT (h : Nat → Int) (q : Int) : Nat → Int → Int × Int × Bool
  | 0, c => (1, c, false)
  | n + 1, c => if (numT h q 256 c 0).2.2 = true then (0, c, true) else if (numT h q 256 c 0).1 ≠ 0 then ((numT h q 256 c 0).1, (numT h q 256 c 0).2.1, false) else nzT h q n (numT h q 256 c 0).2.1

/-- What Nonzero returns. -/
def nznV (h : Nat → Int) (c q : Int) : Value :=
  if chkE c q 2 2305843009213693951 = 0 then .tuple #[bif (nzT h q 256 c).2.2 then drw zeroH 0 else drw h (nzT h q 256 c).2.1, .int .i64 (nzT h q 256 c).1, .int .i64 (bif (nzT h q 256 c).2.2 then 5 else 0)]
  else .tuple #[drw zeroH 0, .int .i64 0, .int .i64 (chkE c q 2 2305843009213693951)]

theorem nzT_full {h : Nat → Int} {q : Int} {n : Nat} {c : Int} (hf : (numT h q 256 c 0).2.2 = true) : nzT h q (n + 1) c = (0, c, true) := by rw [nzT, if_pos hf]
theorem nzT_num {h : Nat → Int} {q : Int} {n : Nat} {c : Int} (hf : (numT h q 256 c 0).2.2 = false) (h1 : (numT h q 256 c 0).1 ≠ 0) : nzT h q (n + 1) c = ((numT h q 256 c 0).1, (numT h q 256 c 0).2.1, false) := by
  rw [nzT, if_neg (by simp [hf]), if_pos h1]
theorem nzT_next {h : Nat → Int} {q : Int} {n : Nat} {c : Int} (hf : (numT h q 256 c 0).2.2 = false) (h1 : (numT h q 256 c 0).1 = 0) : nzT h q (n + 1) c = nzT h q n (numT h q 256 c 0).2.1 := by
  rw [nzT, if_neg (by simp [hf]), if_neg (by simp [h1])]

theorem Nonzero_any (h : Nat → Int) (c q : Int) (w : World) (hT : TabS w) (hB : Byt h) :
    Calls Tryd.prog 17 #[drw h c, .int .i64 q] w fun e w' => e = .returned (nznV h c q) ∧ Up w w' := by
  have HT := hid hT
  have HB := hid hB
  obtain ⟨E, hE⟩ : ∃ E, chkE c q 2 2305843009213693951 = E := ⟨_, rfl⟩
  have HE := hid hE
  obtain ⟨V, hV⟩ : ∃ V, nznV h c q = V := ⟨_, rfl⟩
  have HV := hid hV
  rw [hV]
  clear hT hB hV
  have HC := hid (fun w' => check_draw_any h c q 2 2305843009213693951 w')
  rw [hE] at HC
  clear hE
  unfold drw at HC ⊢
  go_enter Tryd.func17, Tryd.ntmps17
  have hB0 := Blk.new (w := w) (t := 25) (cs := drwA h c) rfl rfl
  have hB1 := Blk.new (w := w.alloc (.cells (drwA h c) 25)) (t := 25) (g := w.heap.size + 1) (by simp) zero33
  go_wp2_with (refine wpList_load_row rfl 25 _ rfl w.heap.size rfl 25 (drwA h c) (0, 0) _ (hB0.alloc _) Tryd.underlying25 rfl (sizeDrw _ _) ?_)
  refine (HC.out _).mono ?_
  rintro e w1 ⟨rfl, hU1⟩
  have HB0 := hid ((hB0.alloc _).up hU1)
  have HB1 := hid (hB1.up hU1)
  have HU1 := hid ((((Up.refl w).alloc _).alloc _).trans hU1)
  clear hU1 hB0 hB1 HC
  obtain ⟨o, ho⟩ : ∃ o, w.heap.size + 1 = o := ⟨_, rfl⟩
  have HOo := hid ho
  clear ho
  by_cases h0 : E = 0
  case neg =>
    have d1 : (E != 0) = true := by simpa using h0
    have HVr : Hid (V = .tuple #[drw zeroH 0, .int .i64 0, .int .i64 E]) := hid (by rw [← HV.out, nznV, HE.out, if_neg h0])
    clear h0
    rw [HOo.out] at HB1
    rw [HOo.out]
    go_wp2_with (refine wpList_store_rowTo rfl 25 _ _ rfl rfl o (drwA zeroH 0) ?_ ?_ 25 (drwA zeroH 0) ?_ ?_ ?_ ?_ ?_)
    · rfl
    · exact (congrArg Value.agg zero33)
    · exact HB1.out
    · exact sizeDrw _ _
    · rfl
    · exact drwA_one _ _
    refine bodyPost_ret (v := .tuple #[.agg (drwA zeroH 0), .int .i64 0, .int .i64 E]) (results_row_tmp2 Tryd.results17 _ _ o 25 _ (0, 0) _ (by rfl) (HB1.out.row _) Tryd.underlying25 rfl (sizeDrw _ _)) rfl ⟨by rw [HVr.out]; rfl, HU1.out.setRow (by have := HOo.out; omega) _⟩
  have hk := chk_iff.1 (HE.out.trans h0)
  have HK := hid hk
  obtain ⟨R, hR⟩ : ∃ R, nzT h q 256 c = R := ⟨_, rfl⟩
  have HR := hid hR
  have HVr : Hid (V = .tuple #[bif R.2.2 then drw zeroH 0 else drw h R.2.1, .int .i64 R.1, .int .i64 (bif R.2.2 then 5 else 0)]) := hid (by rw [← HV.out, nznV, if_pos (HE.out.trans h0), hR])
  subst h0
  clear hk HE HV hR
  go_wp2_with (first
    | (refine wpList_load_row rfl 25 _ rfl w.heap.size rfl 25 (drwA h c) (0, 0) _ HB0.out Tryd.underlying25 rfl (sizeDrw _ _) ?_)
    | (refine wpList_buildTo rfl 110 _ rfl _ rfl (srcA h c false) (by kernel_rfl) ?_))
  have ho := HOo.out
  have l1 := HB1.out.lt
  have HS2 : Hid (Blk (w1.alloc (.cells (srcA h c false) 110)) w1.heap.size 110 (srcA h c false)) := hid (Blk.new rfl rfl)
  have HZ2 := hid (HB1.out.alloc (.cells (srcA h c false) 110))
  have HU2 := hid (HU1.out.alloc (.cells (srcA h c false) 110))
  have HT2 := hid (HT.out.up HU2.out)
  obtain ⟨b, hb⟩ : ∃ b, w1.heap.size = b := ⟨_, rfl⟩
  obtain ⟨w2, hw2⟩ : ∃ w2, w1.alloc (.cells (srcA h c false) 110) = w2 := ⟨_, rfl⟩
  rw [hb, hw2] at HS2
  rw [ho, hw2] at HZ2
  rw [hw2] at HU2 HT2
  have hob : o < b := by rw [← ho, ← hb]; exact l1
  have hwo : w.heap.size ≤ o := by omega
  have HC2 : Hid (0 ≤ c ∧ c ≤ 1099511627776) := hid HK.out.1
  rw [ho, hb, hw2]
  obtain ⟨o0, ho0⟩ : ∃ o0, w.heap.size = o0 := ⟨_, rfl⟩
  rw [ho0]
  have HO0 := hid ho0
  clear ho hb hw2 l1 HB0 HB1 HU1 HOo ho0
  go_loopw [20] (fun vi wr => ∃ (i : Nat) (d : Int), i ≤ 256 ∧ vi = .int .i64 i ∧ Hid (nzT h q (256 - i) d = R) ∧ Hid (0 ≤ d ∧ d ≤ 1099511627776) ∧ Hid (Blk wr b 110 (srcA h d false)) ∧ Hid (Blk wr o 25 (drwA zeroH 0)) ∧ Hid (Up w wr) ∧ Hid (TabS wr)) (fun vi _ => 256 - (intOf vi).toNat)
  case atStart => exact ⟨0, c, by omega, rfl, HR, HC2, HS2, HZ2, HU2, HT2⟩
  case round =>
    clear HS2 HZ2 HU2 HT2 HC2 HR
    obtain ⟨i, d, hi, rfl, HRi, HD, HS, HZ, HU, HTr⟩ := hrel
    by_cases hlt : i < 256
    · obtain ⟨n, hn⟩ : ∃ n, 256 - i = n + 1 := ⟨255 - i, by omega⟩
      have Hn := hid hn
      rw [hn] at HRi
      clear hn
      go_wp2_with fail
      refine (number_any h d false q b _ HTr.out HB.out HS.out HD.out.1 HD.out.2 (fun h => by cases h) (by have := HK.out.2.1; omega) HK.out.2.2).mono ?_
      rintro e w3 ⟨rfl, hS3, hg3⟩
      have HZ3 := hid (Blk.grownOut HZ.out hg3 (by omega))
      have HU3 := hid (Up.grownNew HU.out hg3 (by omega))
      have HT3 := hid (HTr.out.grown HS.out hg3)
      have HS3 := hid hS3
      obtain ⟨r0, r1⟩ := numT_range (h := h) (q := q) 256 d 0 HD.out.1 HD.out.2
      have HD3 : Hid (0 ≤ (numT h q 256 d 0).2.1 ∧ (numT h q 256 d 0).2.1 ≤ 1099511627776) := hid ⟨by have := HD.out.1; omega, r1⟩
      have P1 := hid (fun hf => nzT_full (h := h) (q := q) (n := n) (c := d) hf)
      have P2 := hid (fun hf h1 => nzT_num (h := h) (q := q) (n := n) (c := d) hf h1)
      have P3 := hid (fun hf h1 => nzT_next (h := h) (q := q) (n := n) (c := d) hf h1)
      rw [HRi.out] at P1 P2 P3
      clear hS3 hg3 HZ HU HTr HS r0 r1 HRi
      generalize (numT h q 256 d 0).1 = v at *
      generalize (numT h q 256 d 0).2.1 = c3 at *
      generalize (numT h q 256 d 0).2.2 = F at *
      have f0 := HS3.out.val (srcA_full h c3 F)
      have l0 := HS3.out.lt
      cases F with
      | true =>
        have hr : R = (0, d, true) := P1.out rfl
        subst hr
        clear P1 P2 P3
        go_wp2_with (refine wpList_store_rowTo rfl 25 _ _ rfl rfl o (drwA zeroH 0) ?_ ?_ 25 (drwA zeroH 0) ?_ ?_ ?_ ?_ ?_)
        · rfl
        · exact (congrArg Value.agg zero33)
        · exact HZ3.out
        · exact sizeDrw _ _
        · rfl
        · exact drwA_one _ _
        refine bodyPost_ret (v := .tuple #[.agg (drwA zeroH 0), .int .i64 0, .int .i64 5]) (results_row_tmp2 Tryd.results17 _ _ o 25 _ (0, 0) _ (by rfl) (HZ3.out.row _) Tryd.underlying25 rfl (sizeDrw _ _)) rfl ⟨by rw [HVr.out]; rfl, HU3.out.setRow (by have := HO0.out; omega) _⟩
      | false =>
        have hsd : (Tryd.prog.info? 25).map (·.size) = some (drwA h c3).toList.length := by rw [Array.length_toList]; exact sizeDrw h c3
        have Hsd := hid hsd
        clear hsd P1
        by_cases hv : v = 0
        · have d1 : (v != 0) = false := by simpa using hv
          have HRn : Hid (nzT h q (256 - (i + 1)) c3 = R) := hid (by rw [P3.out rfl hv, show 256 - (i + 1) = n by have := Hn.out; omega])
          clear hv P2 P3
          go_wp2_with fail
          go_roundw
          case rel => exact ⟨i + 1, c3, by omega, by go_num, HRn, HD3, HS3, HZ3, HU3, HT3⟩
          case measure => simp [intOf]; omega
        · have d1 : (v != 0) = true := by simpa using hv
          have hr : R = (v, c3, false) := P2.out rfl hv
          subst hr
          clear hv P2 P3
          go_wp2_with (first
            | (refine wpList_load_mid rfl 25 _ rfl b 0 rfl (drwA h c3).toList _ (src_drw HS3.out) Tryd.underlying25 rfl Hsd.out ?_; rw [Array.toArray_toList])
            | (refine wpList_store_rowTo rfl 25 _ _ rfl rfl o (drwA h c3) rfl rfl 25 (drwA zeroH 0) HZ3.out (sizeDrw _ _) (by rw [drwA_size, drwA_size]) (drwA_one _ _) ?_))
          refine bodyPost_ret (v := .tuple #[.agg (drwA h c3), .int .i64 v, .int .i64 0]) (results_row_tmp2 Tryd.results17 _ _ o 25 _ (0, 0) _ (by rfl) (HZ3.out.row _) Tryd.underlying25 rfl (sizeDrw _ _)) rfl ⟨by rw [HVr.out]; rfl, HU3.out.setRow (by have := HO0.out; omega) _⟩
    · obtain rfl : i = 256 := by omega
      have hr : R = (1, d, false) := HRi.out.symm
      subst hr
      have hsd : (Tryd.prog.info? 25).map (·.size) = some (drwA h d).toList.length := by rw [Array.length_toList]; exact sizeDrw h d
      have Hsd := hid hsd
      have l0 := HS.out.lt
      clear hsd
      go_wp2_with (first
        | (refine wpList_load_mid rfl 25 _ rfl b 0 rfl (drwA h d).toList _ (src_drw HS.out) Tryd.underlying25 rfl Hsd.out ?_; rw [Array.toArray_toList])
        | (refine wpList_store_rowTo rfl 25 _ _ rfl rfl o (drwA h d) rfl rfl 25 (drwA zeroH 0) HZ.out (sizeDrw _ _) (by rw [drwA_size, drwA_size]) (drwA_one _ _) ?_))
      refine bodyPost_ret (v := .tuple #[.agg (drwA h d), .int .i64 1, .int .i64 0]) (results_row_tmp2 Tryd.results17 _ _ o 25 _ (0, 0) _ (by rfl) (HZ.out.row _) Tryd.underlying25 rfl (sizeDrw _ _)) rfl ⟨by rw [HVr.out]; rfl, HU.out.setRow (by have := HO0.out; omega) _⟩
end Go.Proofs.YtdlcmpbpdbpanaaDoor
namespace Go.Proofs.YtdlcmpbpdbpanaaDoor
open Go.RowKit Go.Sp
set_option maxHeartbeats 2000000
set_option maxRecDepth 20000

/-- The text ahead of a source's seed. -/
def drawTag : ByteArray := { data := #[115, 112, 101, 99, 105, 101, 47, 100, 114, 97, 119] }

/-- What New returns. -/
def newV (xs : List Int) : Value := if xs.length ≤ 16384 then .tuple #[drw (tagB (txt drawTag) xs) 0, .int .i64 0] else .tuple #[drw zeroH 0, .int .i64 5]

theorem New_any (v : Value) (xs : List Int) (w : World) (hT : TabS w) (hv : SeqAt .u8 w v xs) (hB : ∀ x ∈ xs, 0 ≤ x ∧ x ≤ 255) :
    Calls Tryd.prog 18 #[v] w fun e w' => e = .returned (newV xs) ∧ Up w w' := by
  have HT := hid hT
  have HV := hid hv
  have HB := hid hB
  obtain ⟨V, hV⟩ : ∃ V, newV xs = V := ⟨_, rfl⟩
  have HNv := hid hV
  rw [hV]
  obtain ⟨a, cap, rfl, h1, h2⟩ := hv.shape
  obtain ⟨n, hn⟩ : ∃ n, xs.length = n := ⟨_, rfl⟩
  have HN := hid hn
  rw [hn] at HV h1
  rw [hn]
  clear hT hv hB hV hn
  by_cases hl : n ≤ 16384
  case neg =>
    have d1 : decide ((n : Int) > 16384) = true := by simp; omega
    have HVr : Hid (V = .tuple #[drw zeroH 0, .int .i64 5]) := hid (by rw [← HNv.out, newV, if_neg (by rw [HN.out]; exact hl)])
    clear hl
    go_enter Tryd.func18, Tryd.ntmps18
    go_wp2_with (refine wpList_store_rowTo rfl 25 _ _ rfl rfl w.heap.size (drwA zeroH 0) ?_ ?_ 25 (drwA zeroH 0) ?_ ?_ ?_ ?_ ?_)
    · rfl
    · exact (congrArg Value.agg zero33)
    · exact Blk.new rfl zero33
    · exact sizeDrw _ _
    · rfl
    · exact drwA_one _ _
    refine bodyPost_ret (v := .tuple #[.agg (drwA zeroH 0), .int .i64 5]) (results_row_tmp Tryd.results18 _ _ w.heap.size 25 _ (0, 0) _ (by rfl) ((Blk.new (cs' := drwA zeroH 0) rfl zero33).row _) Tryd.underlying25 rfl (sizeDrw _ _)) rfl ⟨by rw [HVr.out]; rfl, ((Up.refl w).alloc _).setRow (Nat.le_refl _) _⟩
  have d1 : decide ((n : Int) > 16384) = false := by simp; omega
  have HVr : Hid (V = .tuple #[drw (tagB (txt drawTag) xs) 0, .int .i64 0]) := hid (by rw [← HNv.out, newV, if_pos (by rw [HN.out]; exact hl)])
  have HTg := hid (fun w' (hU : Up w w') => Tagged_any drawTag (.slice a n cap) xs w' (HT.out.up hU) (by decide) (by decide) (HV.out.up hU) (by rw [HN.out]; omega) HB.out)
  obtain ⟨H, hH⟩ : ∃ H, tagB (txt drawTag) xs = H := ⟨_, rfl⟩
  rw [hH] at HTg HVr
  clear hH hl HNv
  go_enter Tryd.func18, Tryd.ntmps18
  have hZ := Blk.new (w := w) (t := 25) (g := w.heap.size) rfl zero33
  have HZ := hid hZ
  clear hZ
  go_wp2_with fail
  refine (HTg.out _ ((Up.refl w).alloc _)).mono ?_
  rintro e w1 ⟨rfl, hU1⟩
  have HZ1 := hid (HZ.out.up hU1)
  have HU1 := hid (((Up.refl w).alloc _).trans hU1)
  obtain ⟨o, ho⟩ : ∃ o, w.heap.size = o := ⟨_, rfl⟩
  have HOo := hid ho
  rw [ho] at HZ1
  rw [ho]
  clear hU1 HZ ho HTg
  have l0 := HZ1.out.lt
  unfold hashV
  go_wp2_with (first
    | (refine wpList_store_rowTo rfl 23 _ _ rfl rfl _ _ rfl rfl 23 _ (heap_alloc_new _ _) (by rw [arrK_size]; kernel_rfl) (by rw [arrK_size]; rfl) arrK_one ?_; rw [World.setRow_alloc_new])
    | (refine wpList_load_row rfl 23 _ rfl w1.heap.size rfl 23 (arrK .u8 H 32) (0, 0) _ (Blk.new rfl rfl) Tryd.underlying23 rfl (by rw [arrK_size]; kernel_rfl) ?_)
    | (refine wpList_buildTo rfl 25 _ rfl _ rfl (drwA H 0) (by kernel_rfl) ?_)
    | (refine wpList_store_rowTo rfl 25 _ _ rfl rfl o (drwA H 0) rfl rfl 25 (drwA zeroH 0) (HZ1.out.alloc _) (sizeDrw _ _) (by rw [drwA_size, drwA_size]) (drwA_one _ _) ?_))
  refine bodyPost_ret (v := .tuple #[.agg (drwA H 0), .int .i64 0]) (results_row_tmp Tryd.results18 _ _ o 25 _ (0, 0) _ (by rfl) ((HZ1.out.alloc _).row _) Tryd.underlying25 rfl (sizeDrw _ _)) rfl ⟨by rw [HVr.out]; rfl, (HU1.out.alloc _).setRow (by have := HOo.out; omega) _⟩
end Go.Proofs.YtdlcmpbpdbpanaaDoor
