/- The reference of the transcript: Absorb. The reference of the transcript: Challenge. The reference of the transcript: lists of integers. The reference of the transcript: Ints. -/
import Derived.Test.YtdlcmpbpdbpanaaGreatDoorMB27
import Derived.Test.YtdlcmpbpdbpanaaGreatDoorMB17
import Derived.Test.YtdlcmpbpdbpanaaGreatDoorMB19
namespace Go.Proofs.YtdlcmpbpdbpanaaGreatDoor
open Go.RowKit Go.Sp
set_option maxHeartbeats 4000000
set_option maxRecDepth 20000

theorem op_build_to {P : Program} {o : Oper} {a : Act} {w : World} {K : Act → World → Prop} {Q : Exit → Act → World → Prop} (t : TypeId) (parts : Array (Nat × Operand)) (ho : o.op = .build t parts)
    (d : Option Tmp) (hd : o.dst = d) (cells : Array Value) (hf : P.built t (parts.map fun (i, x) => (i, a.eval x)).toList = some cells) (h : K (a.put d (.agg cells)) w) : o.wp P a w K Q := by
  subst hd
  refine wp_build t parts ho (by rw [hf]; rfl) ?_
  rw [hf]
  exact h

theorem r8Absorb_ok (h : Nat → Int) (c : Int) (s : ByteArray) (k n : Int) (b l : Value) (es : List Int) (w : World) (hB : Byt h) (c0 : 0 ≤ c) (c1 : c < 1000) (hs : Lab s) (hq : ItmAt w 6 k n b l es) (hl : es.length ≤ 16000) (hes : ∀ x ∈ es, 0 ≤ x ∧ x ≤ 255) :
    Calls Tryz.prog 112 #[drw h c, .string s, itm k n b l] w fun e w' => e = .returned (.tuple #[drw (absB h (txt s) es) (c + 1), .int .i64 0]) ∧ Up w w' := by
  have HV : Hid (absB h (txt s) es = tagB (txt absTag) (frameE h (txt s) [es])) := hid (by rw [absTag_txt]; rfl)
  have hFl : (frameE h (txt s) [es]).length ≤ 16384 := by rw [frameE_length, txt_length]; have := hs.max; simp; omega
  have hFb : ∀ x ∈ frameE h (txt s) [es], 0 ≤ x ∧ x ≤ 255 := frameE_byt hB (txt_byt s) (fun e he => by simp at he; subst he; exact hes)
  have M1 := hid (fun w' => r8Valid_ok h c w' c0 (by omega))
  have M2 := hid (fun w' => rlabel_ok s w' hs)
  have M3 := hid (fun w' (g0 : Nat) (hU : Up w w') (hc : ItmCells w' g0 0 k n b l) => r8frame_one h c s g0 ⟨k, n, b, l⟩ es w' hB hs hc (hq.up hU))
  have M6 := hid (fun w' (v' : Value) (hv' : SeqAt .u8 w' v' (frameE h (txt s) [es])) => rTagged_any absTag v' (frameE h (txt s) [es]) w' (by decide) hv' (by omega) hFb)
  rw [← HV.out] at M6
  generalize absB h (txt s) es = H at *
  generalize frameE h (txt s) [es] = F at *
  have M4 := hid (fun w' (l' : Value) (hi : ItmAt w' 7 3 0 nilS l' F) => rValid7_ok 7 3 0 nilS l' F w' hi (by omega))
  have M5 := hid (fun w' (l' : Value) (hi : ItmAt w' 7 3 0 nilS l' F) => renc_ok 7 3 0 nilS l' F w' hi (by omega))
  obtain ⟨⟨ba, bn, bc, rfl⟩, la, ln, lc, rfl⟩ := itm_shape hq
  have hctr := drwA_ctr h c
  have HCt := hid hctr
  have HSz := hid (sizeTr h c)
  unfold drw at M1 M3 ⊢
  generalize drwA h c = cs at *
  have dc : (c == 1000) = false := by simp; omega
  have hwr : IntKind.i64.wrap (c + 1) = c + 1 := IntWalk.i64_in _ (by omega)
  clear hB hs hq hl hes HV hctr hFb
  obtain ⟨o, ho⟩ : ∃ o, w.heap.size = o := ⟨_, rfl⟩
  have HO := hid ho
  obtain ⟨o1, ho1⟩ : ∃ o1, o + 1 = o1 := ⟨_, rfl⟩
  have HO1 := hid ho1
  obtain ⟨o2, ho2⟩ : ∃ o2, o1 + 1 = o2 := ⟨_, rfl⟩
  have HO2 := hid ho2
  clear ho ho1 ho2
  go_enter Tryz.func112, Tryz.ntmps112
  have hB0 := Blk.new (w := w) (t := 135) (cs := cs) (g := w.heap.size) rfl rfl
  go_wp2_with (refine wpList_load_row rfl 135 _ rfl w.heap.size rfl 135 cs (0, 0) _ ((hB0.alloc _).alloc _) Tryz.underlying135 rfl HSz.out ?_)
  refine (M1.out _).mono ?_
  rintro e w1 ⟨rfl, hU1⟩
  have HS1 := hid (((Blk.new (w := w) (t := 135) (cs := cs) (g := o) HO.out rfl).up (((Up.refl _).alloc _).alloc _)).up hU1)
  have HI1 := hid (((Blk.new (g := o1) (t := 152) (by have := HO.out; have := HO1.out; simp; omega) rfl).up ((Up.refl _).alloc _)).up hU1)
  have HZ1 : Hid (Blk w1 o2 135 (drwA zeroH 0)) := hid ((Blk.new (g := o2) (t := 135) (by have := HO.out; have := HO1.out; have := HO2.out; simp; omega) zero33).up hU1)
  have HU1 := hid (((((Up.refl w).alloc _).alloc _).alloc _).trans hU1)
  rw [HO.out, HO1.out, HO2.out]
  clear hU1 hB0
  go_wp2_with fail
  refine (M2.out _).mono ?_
  rintro e w2 ⟨rfl, hU2⟩
  have HS2 := hid (HS1.out.up hU2)
  have HI2 := hid (HI1.out.up hU2)
  have HZ2 := hid (HZ1.out.up hU2)
  have HU2 := hid (HU1.out.trans hU2)
  clear hU2 HS1 HI1 HZ1 HU1
  have i0 := HI2.out.val (i := 0) rfl
  have i1 := HI2.out.val (i := 1) rfl
  have i2 := HI2.out.val (i := 2) rfl
  have i3 := HI2.out.val (i := 3) rfl
  go_wp2_with (refine wpList_load_row rfl 135 _ rfl o rfl 135 cs (0, 0) _ HS2.out Tryz.underlying135 rfl HSz.out ?_)
  refine (M3.out _ w2.heap.size (HU2.out.alloc _) (itm_new rfl)).mono ?_
  rintro e w3 ⟨l3, rfl, hI3, hU3⟩
  have hU3 := ((Up.refl w2).alloc _).trans hU3
  have HS3 := hid (HS2.out.up hU3)
  have HZ3 := hid (HZ2.out.up hU3)
  have HU3 := hid (HU2.out.trans hU3)
  have HF3 := hid hI3
  obtain ⟨_, l3a, l3n, l3c, rfl⟩ := itm_shape hI3
  clear hU3 hI3 HS2 HI2 HZ2 HU2 i0 i1 i2 i3
  obtain ⟨g, hg⟩ : ∃ g, w3.heap.size = g := ⟨_, rfl⟩
  have HGg := hid hg
  clear hg
  go_wp2_with fail
  refine (M4.out _ _ (HF3.out.up ((Up.refl _).alloc _))).mono ?_
  rintro e w4 ⟨rfl, hU4⟩
  have HD4 := hid ((Blk.new (w := w3) (t := 152) (cs := #[.int .i64 3, .int .i64 0, nilS, .slice l3a l3n l3c]) HGg.out rfl).up hU4)
  have hU4 := ((Up.refl w3).alloc _).trans hU4
  have HS4 := hid (HS3.out.up hU4)
  have HZ4 := hid (HZ3.out.up hU4)
  have HF4 := hid (HF3.out.up hU4)
  have HU4 := hid (HU3.out.trans hU4)
  rw [HGg.out]
  clear hU4 HS3 HZ3 HF3 HU3
  have k0 := HD4.out.val (i := 0) rfl
  have k1 := HD4.out.val (i := 1) rfl
  have k2 := HD4.out.val (i := 2) rfl
  have k3 := HD4.out.val (i := 3) rfl
  go_wp2_with fail
  refine (M5.out _ _ HF4.out).mono ?_
  rintro e w5 ⟨v5, rfl, hO5, hU5⟩
  have HX5 := hid hO5.seq
  obtain ⟨a5, c5, rfl, _, _⟩ := hO5.shape
  have HS5 := hid (HS4.out.up hU5)
  have HZ5 := hid (HZ4.out.up hU5)
  have HU5 := hid (HU4.out.trans hU5)
  clear hU5 hO5 HS4 HZ4 HF4 HU4 HD4 k0 k1 k2 k3
  have q32 : w5.cell? ⟨o, 32, none⟩ = some (.int .i64 c) := HS5.out.val HCt.out
  have dl : decide ((F.length : Int) > 16384) = false := by simp; omega
  go_wp2_with fail
  clear q32
  refine region_E (fun w' => Blk w' o 135 cs) 7 (by kernel_rfl) (HS5.out.up (Up.refl _).drew) fun hS => ?_
  refine anyE_take (i := 0) (v := ?_) 39 rfl rfl (by kernel_rfl) (by kernel_rfl) (by decide) (fun _ _ _ h => h) (by kernel_rfl) (by kernel_rfl) (.inl ⟨by rfl, fun u hu => ?_⟩) hS ?_
  rotate_left
  · (go_simp; first | done | with_reducible rfl)
  simp only [Act.put, List.setIfInBounds_toArray, List.set_cons_zero, List.set_cons_succ]
  refine anyE_take (i := 2) (v := ?_) 41 rfl rfl (by kernel_rfl) (by kernel_rfl) (by decide) (fun _ _ _ h => h) (by kernel_rfl) (by kernel_rfl) (.inl ⟨by rfl, fun u hu => ?_⟩) hS ?_
  rotate_left
  · (go_simp; first | done | with_reducible rfl)
  simp only [Act.put, List.setIfInBounds_toArray, List.set_cons_zero, List.set_cons_succ]
  refine anyE_take (i := 3) (v := ?_) 42 rfl rfl (by kernel_rfl) (by kernel_rfl) (by decide) (fun _ _ _ h => h) (by kernel_rfl) (by kernel_rfl) (.inl ⟨by rfl, fun u hu => ?_⟩) hS ?_
  rotate_left
  · (have q32 := Blk.val hu HCt.out; go_simp; first | done | with_reducible rfl)
  simp only [Act.put, List.setIfInBounds_toArray, List.set_cons_zero, List.set_cons_succ]
  refine anyE_take (i := 4) (v := ?_) 43 rfl rfl (by kernel_rfl) (by kernel_rfl) (by decide) (fun _ _ _ h => h) (by kernel_rfl) (by kernel_rfl) (.inl ⟨by rfl, fun u hu => ?_⟩) hS ?_
  rotate_left
  · (go_simp; first | done | with_reducible rfl)
  simp only [Act.put, List.setIfInBounds_toArray, List.set_cons_zero, List.set_cons_succ]
  refine anyE_one (i := 1) rfl (by kernel_rfl) rfl (fun K hK => ?_)
  go_simp
  refine (M6.out _ _ (HX5.out.up (Up.refl _).drew)).mono ?_
  rintro e w6 ⟨rfl, hU6⟩
  dsimp only
  have hS6 := Blk.up hS hU6
  have hD6 := HU5.out.drew.trans hU6
  have hZ6 := (HZ5.out.up (Up.refl _).drew).up hU6
  refine hK.out _ _ (.inr hS6) ?_
  clear hK
  unfold hashV
  try simp only [Act.put, List.setIfInBounds_toArray, List.set_cons_zero, List.set_cons_succ]
  refine anyE_one (i := 5) rfl (by kernel_rfl) rfl (fun K hK => ?_)
  refine op_build_to 135 _ rfl _ rfl (drwA H (c + 1)) (by kernel_rfl) ?_
  refine hK.out _ _ (.inr hS6) ?_
  clear hK
  try simp only [Act.put, List.setIfInBounds_toArray]
  refine anyE_one (i := 6) rfl (by kernel_rfl) rfl (fun K hK => ?_)
  refine op_store_row 135 _ _ rfl rfl o2 (drwA H (c + 1)) rfl rfl 135 (drwA zeroH 0) hZ6 (sizeTr _ _) (by rw [drwA_size, drwA_size]) (drwA_one _ _) ?_
  have hS7 : Blk (w6.setRow o2 (drwA H (c + 1))) o 135 cs := Blk.rowApart hS6 (by have := HO1.out; have := HO2.out; omega) _
  refine hK.out _ _ (.inr hS7) ?_
  clear hK
  refine anyE_one (i := 7) rfl (by kernel_rfl) rfl (fun K hK => ?_)
  go_simp
  refine hK.out _ _ (.inl rfl) (anyE_done (by kernel_rfl) ?_ _)
  clear hK
  go_wp2
  refine bodyPost_ret (v := .tuple #[.agg (drwA H (c + 1)), .int .i64 0]) (results_row_tmp Tryz.results112 _ _ o2 135 _ (0, 0) _ (by rfl) (hZ6.row _) Tryz.underlying135 rfl (sizeTr _ _)) rfl ⟨rfl, hD6.setRow (by have := HO.out; have := HO1.out; have := HO2.out; omega) _⟩
end Go.Proofs.YtdlcmpbpdbpanaaGreatDoor
namespace Go.Proofs.YtdlcmpbpdbpanaaGreatDoor
open Go.RowKit Go.Sp
set_option maxHeartbeats 4000000
set_option maxRecDepth 20000

theorem r8Challenge_ok (h : Nat → Int) (c : Int) (s : ByteArray) (q : Int) (w : World) (hB : Byt h) (c0 : 0 ≤ c) (c1 : c < 1000) (hs : Lab s) (q0 : 2 ≤ q) (q1 : q < 2305843009213693952) :
    Calls Tryz.prog 115 #[drw h c, .string s, .int .i64 q] w fun e w' => (∃ T, e = .returned (.tuple #[.agg T, .int .i64 (chalN h (txt s) q), .int .i64 0]) ∧ T.size = 33 ∧ T.all (·.oneCell') = true) ∧ Up w w' := by
  have HVc : Hid (chalN h (txt s) q = numH (tagB (txt chTag) (frameE h (txt s) [])) q) := hid (by rw [chTag_txt]; rfl)
  have hFl : (frameE h (txt s) []).length ≤ 16384 := by rw [frameE_length, txt_length]; have := hs.max; simp; omega
  have hFb : ∀ x ∈ frameE h (txt s) [], 0 ≤ x ∧ x ≤ 255 := frameE_byt hB (txt_byt s) (fun e he => by simp at he)
  have M1 := hid (fun w' => r8Valid_ok h c w' c0 (by omega))
  have M2 := hid (fun w' => rlabel_ok s w' hs)
  have M3 := hid (fun w' => r8frame_none h c s w' hB hs)
  have M3b := hid (fun w' (l' : Value) (hi : ItmAt w' 7 3 0 nilS l' (frameE h (txt s) [])) => renc_ok 7 3 0 nilS l' _ w' hi (by omega))
  have M3c := hid (fun w' (v' : Value) (hv' : SeqAt .u8 w' v' (frameE h (txt s) [])) => rTagged_any chTag v' _ w' (by decide) hv' (by omega) hFb)
  have HHb := hid (tagB_range (txt chTag) (frameE h (txt s) []))
  generalize tagB (txt chTag) (frameE h (txt s) []) = R at *
  generalize frameE h (txt s) [] = F at *
  have M4 := hid (fun w' => rNumber_ok R q w' HHb.out (by omega) q1)
  rw [← HVc.out] at M4
  generalize chalN h (txt s) q = C at *
  have M5 := hid (fun w' => r8Absorb_ok h c s 1 C nilS nilS (encInt C) w' hB c0 c1 hs (itm_int w' C 6) (by rw [encInt_length]; omega) (encInt_byt C))
  generalize absB h (txt s) (encInt C) = H at *
  have hctr := drwA_ctr h c
  have HCt := hid hctr
  have HSz := hid (sizeTr h c)
  unfold drw at M1 M3 M5 ⊢
  generalize drwA h c = cs at *
  have dc : (c == 1000) = false := by simp; omega
  have dq : decide (q < 2) = false := by simp; omega
  have dq2 : decide (q ≥ 2305843009213693952) = false := by simp; omega
  clear hB hs hctr q0 q1 c0 c1 hFl hFb
  obtain ⟨o, ho⟩ : ∃ o, w.heap.size = o := ⟨_, rfl⟩
  have HO := hid ho
  obtain ⟨o1, ho1⟩ : ∃ o1, o + 1 = o1 := ⟨_, rfl⟩
  have HO1 := hid ho1
  clear ho ho1
  go_enter Tryz.func115, Tryz.ntmps115
  have hB0 := Blk.new (w := w) (t := 135) (cs := cs) (g := w.heap.size) rfl rfl
  go_wp2_with (refine wpList_load_row rfl 135 _ rfl w.heap.size rfl 135 cs (0, 0) _ (hB0.alloc _) Tryz.underlying135 rfl HSz.out ?_)
  refine (M1.out _).mono ?_
  rintro e w1 ⟨rfl, hU1⟩
  have HS1 := hid (((Blk.new (w := w) (t := 135) (cs := cs) (g := o) HO.out rfl).up ((Up.refl _).alloc _)).up hU1)
  have HZ1 : Hid (Blk w1 o1 135 (drwA zeroH 0)) := hid ((Blk.new (g := o1) (t := 135) (by have := HO.out; have := HO1.out; simp; omega) zero33).up hU1)
  have HU1 := hid ((((Up.refl w).alloc _).alloc _).trans hU1)
  rw [HO.out, HO1.out]
  clear hU1 hB0
  go_wp2_with fail
  refine (M2.out _).mono ?_
  rintro e w2 ⟨rfl, hU2⟩
  have HS2 := hid (HS1.out.up hU2)
  have HZ2 := hid (HZ1.out.up hU2)
  have HU2 := hid (HU1.out.trans hU2)
  clear hU2 HS1 HZ1 HU1
  have q32 : w2.cell? ⟨o, 32, none⟩ = some (.int .i64 c) := HS2.out.val HCt.out
  go_wp2_with (refine wpList_load_row rfl 135 _ rfl o rfl 135 cs (0, 0) _ HS2.out Tryz.underlying135 rfl HSz.out ?_)
  refine (M3.out _).mono ?_
  rintro e wa ⟨la, rfl, hIa, hUa⟩
  have HSa := hid (HS2.out.up hUa)
  have HZa := hid (HZ2.out.up hUa)
  have HUa := hid (HU2.out.trans hUa)
  have HFa := hid hIa
  obtain ⟨_, l3a, l3n, l3c, rfl⟩ := itm_shape hIa
  clear hUa hIa HS2 HZ2 HU2 q32
  go_wp2_with fail
  refine (M3b.out _ _ HFa.out).mono ?_
  rintro e wb ⟨vb, rfl, hOb, hUb⟩
  have HXb := hid hOb.seq
  obtain ⟨ab, cb, rfl, _, _⟩ := hOb.shape
  have HSb := hid (HSa.out.up hUb)
  have HZb := hid (HZa.out.up hUb)
  have HUb := hid (HUa.out.trans hUb)
  clear hUb hOb HSa HZa HUa HFa
  go_wp2_with fail
  refine (M3c.out _ _ HXb.out).mono ?_
  rintro e w3 ⟨rfl, hU3⟩
  have HS3 := hid (HSb.out.up hU3)
  have HZ3 := hid (HZb.out.up hU3)
  have HU3 := hid (HUb.out.trans hU3)
  clear hU3 HSb HZb HUb HXb
  unfold hashV at M4 ⊢
  go_wp2_with fail
  refine (M4.out _).mono ?_
  rintro e w4 ⟨rfl, hU4⟩
  have HS4 := hid (HS3.out.up hU4)
  have HZ4 := hid (HZ3.out.up hU4)
  have HU4 := hid (HU3.out.trans hU4)
  clear hU4 HS3 HZ3 HU3
  go_wp2_with (refine wpList_load_row rfl 135 _ rfl o rfl 135 cs (0, 0) _ HS4.out Tryz.underlying135 rfl HSz.out ?_)
  refine (M5.out _).mono ?_
  rintro e w5 ⟨rfl, hU5⟩
  have HZ5 := hid (HZ4.out.up hU5)
  have HU5 := hid (HU4.out.trans hU5)
  clear hU5 HS4 HZ4 HU4
  have l1 := HZ5.out.lt
  go_wp2_with (first
    | (refine wpList_store_rowTo rfl 135 _ _ rfl rfl o1 (drwA H (c + 1)) rfl rfl 135 (drwA zeroH 0) (HZ5.out.alloc _) (sizeTr _ _) (by rw [drwA_size, drwA_size]) (drwA_one _ _) ?_)
    | (refine wpList_store_rowTo rfl 135 _ _ rfl rfl _ _ rfl rfl 135 _ (heap_alloc_new _ _) (sizeTr _ _) (by rw [drwA_size]; rfl) (drwA_one _ _) ?_; rw [World.setRow_alloc_new])
    | (refine wpList_load_row rfl 135 _ rfl w5.heap.size rfl 135 (drwA H (c + 1)) (0, 0) _ (Blk.new rfl rfl) Tryz.underlying135 rfl (sizeTr _ _) ?_))
  refine bodyPost_ret (v := .tuple #[.agg (drwA H (c + 1)), .int .i64 C, .int .i64 0]) (results_row_tmp2 Tryz.results115 _ _ o1 135 _ (0, 0) _ (by rfl) ((HZ5.out.alloc _).row _) Tryz.underlying135 rfl (sizeTr _ _)) rfl ⟨⟨drwA H (c + 1), rfl, drwA_size _ _, drwA_one _ _⟩, (HU5.out.alloc _).setRow (by have := HO.out; have := HO1.out; omega) _⟩
end Go.Proofs.YtdlcmpbpdbpanaaGreatDoor
namespace Go.Proofs.YtdlcmpbpdbpanaaGreatDoor
open Go.RowKit Go.Sp
set_option maxHeartbeats 4000000
set_option maxRecDepth 20000

/-- What the loop's region reads. -/
def R8S (L i : Nat) (ad : Option Addr) (cp : Nat) (w0 w : World) : Prop := Blk w L 152 #[.int .i64 3, .int .i64 0, nilS, .slice ad i cp] ∧ Up w0 w
theorem R8S.up {L i : Nat} {ad : Option Addr} {cp : Nat} {w0 w w' : World} (h : R8S L i ad cp w0 w) (hU : Up w w') : R8S L i ad cp w0 w' := ⟨h.1.up hU, h.2.trans hU⟩
theorem R8S.cells {L i : Nat} {ad : Option Addr} {cp : Nat} {w0 w : World} (h : R8S L i ad cp w0 w) : w.cell? ⟨L, 3, none⟩ = some (.slice ad i cp) ∧ Up w0 w := ⟨h.1.val (i := 3) rfl, h.2⟩

theorem r8List_ok (v : Value) (xs : List Int) (w : World) (hv : IntsAt w v xs) (hl : xs.length ≤ 1000) :
    Calls Tryz.prog 173 #[v] w fun e w' => ∃ l, e = .returned (itm 3 0 nilS l) ∧ ItmAt w' 1 3 0 nilS l (encInts xs) ∧ Up w w' := by
  obtain ⟨l1, a1, cp1, rfl, hc1⟩ := hv
  have HC := hid hc1
  obtain ⟨n, hn⟩ : ∃ n, xs.length = n := ⟨_, rfl⟩
  have HN := hid hn
  rw [hn] at l1 hl
  rw [hn]
  clear hc1 hn
  obtain ⟨o, ho⟩ : ∃ o, w.heap.size = o := ⟨_, rfl⟩
  have HO := hid ho
  obtain ⟨o1, ho1⟩ : ∃ o1, o + 1 = o1 := ⟨_, rfl⟩
  have HO1 := hid ho1
  obtain ⟨o2, ho2⟩ : ∃ o2, o1 + 1 = o2 := ⟨_, rfl⟩
  have HO2 := hid ho2
  clear ho ho1 ho2
  go_enter Tryz.func173, Tryz.ntmps173
  go_wp2_with fail
  have HZ0 : Hid (Blk ((w.alloc (.cells #[.int .i64 0, .int .i64 0, nilS, nilS] 152)).alloc (.cells #[.int .i64 3, .int .i64 0, nilS, nilS] 152)) o 152 #[.int .i64 0, .int .i64 0, nilS, nilS]) := hid ((Blk.new HO.out rfl).alloc _)
  have HL0 : Hid (Blk ((w.alloc (.cells #[.int .i64 0, .int .i64 0, nilS, nilS] 152)).alloc (.cells #[.int .i64 3, .int .i64 0, nilS, nilS] 152)) o1 152 #[.int .i64 3, .int .i64 0, nilS, nilS]) := hid (Blk.new (by have := HO.out; have := HO1.out; simp; omega) rfl)
  have HU0 : Hid (Up w ((w.alloc (.cells #[.int .i64 0, .int .i64 0, nilS, nilS] 152)).alloc (.cells #[.int .i64 3, .int .i64 0, nilS, nilS] 152))) := hid (((Up.refl w).alloc _).alloc _)
  rw [HO.out, HO1.out]
  rw [show (w.alloc (.cells #[.int .i64 0, .int .i64 0, .slice none 0 0, .slice none 0 0] 152)).alloc (.cells #[.int .i64 3, .int .i64 0, .slice none 0 0, .slice none 0 0] 152) = (w.alloc (.cells #[.int .i64 0, .int .i64 0, nilS, nilS] 152)).alloc (.cells #[.int .i64 3, .int .i64 0, nilS, nilS] 152) from rfl]
  generalize (w.alloc (.cells #[.int .i64 0, .int .i64 0, nilS, nilS] 152)).alloc (.cells #[.int .i64 3, .int .i64 0, nilS, nilS] 152) = w0 at *
  go_loopw [4] (fun vi wr => ∃ (i : Nat) (ad : Option Addr) (cp : Nat), i ≤ n ∧ vi = .int .i64 i ∧ Hid (Blk wr o1 152 #[.int .i64 3, .int .i64 0, nilS, .slice ad i cp]) ∧ Hid (Blk wr o 152 #[.int .i64 0, .int .i64 0, nilS, nilS]) ∧ Hid (OwnQ 152 wr o2 (.slice ad i cp) ((xs.take i).map quadI)) ∧ Hid (Up w wr)) (fun vi _ => n - (intOf vi).toNat)
  case atStart => exact ⟨0, none, 0, by omega, rfl, HL0, HZ0, hid ownQ_none, HU0⟩
  case round =>
    clear HL0 HZ0 HU0
    obtain ⟨i, ad, cp, hi, rfl, HL, HZ, HQ, HU⟩ := hrel
    have lL : o1 < wr.heap.size := HL.out.lt
    have hlo : o < o1 := by have := HO1.out; omega
    have hlo2 : o1 < o2 := by have := HO2.out; omega
    have hlw : w.heap.size ≤ o := by have := HO.out; omega
    by_cases hlt : i < n
    · have hlx : i < xs.length := by rw [HN.out]; exact hlt
      obtain ⟨b1, f1, rfl, q1⟩ := ints_cell HC.out (Up.refl w) hlx
      have HT : Hid (xs.take (i + 1) = xs.take i ++ [xs.getD i 0]) := hid (by rw [List.take_succ_eq_append_getElem hlx]; simp [hlx])
      have HLi : Hid (((xs.take i).map quadI).length = i) := hid (by simp; omega)
      have HLi1 : Hid (((xs.take (i + 1)).map quadI).length = i + 1) := hid (by simp; omega)
      have hz1 : (i : Int) < n := by omega
      clear hlx
      generalize xs.getD i 0 = x at *
      have HX : Hid (True ∧ ∀ u, Up w u → u.cell? ⟨b1, f1 + i, none⟩ = some (.int .i64 x)) := hid ⟨trivial, fun u hU => cellUp hU q1⟩
      have HQ7 : Hid ((xs.take i).map quadI ++ [quadI x] = (xs.take (i + 1)).map quadI) := hid (by rw [HT.out, List.map_append]; rfl)
      have HB : Hid (R8S o1 i ad cp w wr) := hid ⟨HL.out, HU.out⟩
      clear q1
      go_wp2_with fail
      refine region_E (R8S o1 i ad cp w) 10 (by kernel_rfl) (HB.out.up (Up.refl _).drew) fun hS => ?_
      refine anyE_take (i := 0) (v := ?_) 12 rfl rfl (by kernel_rfl) (by kernel_rfl) (by decide) (fun _ _ _ h => h) (by kernel_rfl) (by kernel_rfl) (.inl ⟨by rfl, fun u hu => ?_⟩) hS ?_
      rotate_left
      · (obtain ⟨u1, u2⟩ := R8S.cells hu; have u3 := HX.out.2 _ u2; go_simp; first | done | with_reducible rfl)
      simp only [Act.put, List.setIfInBounds_toArray, List.set_cons_zero, List.set_cons_succ]
      refine anyE_take (i := 1) (v := ?_) 13 rfl rfl (by kernel_rfl) (by kernel_rfl) (by decide) (fun _ _ _ h => h) (by kernel_rfl) (by kernel_rfl) (.inl ⟨by rfl, fun u hu => ?_⟩) hS ?_
      rotate_left
      · (obtain ⟨u1, u2⟩ := R8S.cells hu; have u3 := HX.out.2 _ u2; go_simp; first | done | with_reducible rfl)
      simp only [Act.put, List.setIfInBounds_toArray, List.set_cons_zero, List.set_cons_succ]
      refine anyE_take (i := 2) (v := ?_) 14 rfl rfl (by kernel_rfl) (by kernel_rfl) (by decide) (fun _ _ _ h => h) (by kernel_rfl) (by kernel_rfl) (.inl ⟨by rfl, fun u hu => ?_⟩) hS ?_
      rotate_left
      · (obtain ⟨u1, u2⟩ := R8S.cells hu; have u3 := HX.out.2 _ u2; go_simp; first | done | with_reducible rfl)
      simp only [Act.put, List.setIfInBounds_toArray, List.set_cons_zero, List.set_cons_succ]
      refine anyE_take (i := 3) (v := ?_) 15 rfl rfl (by kernel_rfl) (by kernel_rfl) (by decide) (fun _ _ _ h => h) (by kernel_rfl) (by kernel_rfl) (.inl ⟨by rfl, fun u hu => ?_⟩) hS ?_
      rotate_left
      · (obtain ⟨u1, u2⟩ := R8S.cells hu; have u3 := HX.out.2 _ u2; go_simp; first | done | with_reducible rfl)
      simp only [Act.put, List.setIfInBounds_toArray, List.set_cons_zero, List.set_cons_succ]
      refine anyE_take (i := 4) (v := ?_) 16 rfl rfl (by kernel_rfl) (by kernel_rfl) (by decide) (fun _ _ _ h => h) (by kernel_rfl) (by kernel_rfl) (.inl ⟨by rfl, fun u hu => ?_⟩) hS ?_
      rotate_left
      · (obtain ⟨u1, u2⟩ := R8S.cells hu; have u3 := HX.out.2 _ u2; go_simp; first | done | with_reducible rfl)
      simp only [Act.put, List.setIfInBounds_toArray, List.set_cons_zero, List.set_cons_succ]
      refine anyE_take (i := 5) (v := ?_) 17 rfl rfl (by kernel_rfl) (by kernel_rfl) (by decide) (fun _ _ _ h => h) (by kernel_rfl) (by kernel_rfl) (.inl ⟨by rfl, fun u hu => ?_⟩) hS ?_
      rotate_left
      · (obtain ⟨u1, u2⟩ := R8S.cells hu; have u3 := HX.out.2 _ u2; go_simp; first | done | with_reducible rfl)
      simp only [Act.put, List.setIfInBounds_toArray, List.set_cons_zero, List.set_cons_succ]
      refine anyE_take (i := 6) (v := ?_) 18 rfl rfl (by kernel_rfl) (by kernel_rfl) (by decide) (fun _ _ _ h => h) (by kernel_rfl) (by kernel_rfl) (.inl ⟨by rfl, fun u hu => ?_⟩) hS ?_
      rotate_left
      · (obtain ⟨u1, u2⟩ := R8S.cells hu; have u3 := HX.out.2 _ u2; go_simp; first | done | with_reducible rfl)
      simp only [Act.put, List.setIfInBounds_toArray, List.set_cons_zero, List.set_cons_succ]
      refine anyE_one (i := 7) rfl (by kernel_rfl) rfl (fun K hK => ?_)
      go_simp
      have hQ4 := (Up.refl wr).drew.alloc (.cells #[.int .i64 1, .int .i64 x, nilS, nilS] 152)
      have hS4 := R8S.up (HB.out.up (Up.refl wr).drew) ((Up.refl wr.drew).alloc (.cells #[.int .i64 1, .int .i64 x, nilS, nilS] 152))
      refine hK.out _ _ (.inr hS4) ?_
      clear hK
      try simp only [Act.put, List.setIfInBounds_toArray, List.set_cons_zero, List.set_cons_succ]
      have hO4 := HQ.out.up hQ4
      have hz4 := hQ4.size
      refine anyE_one (i := 8) rfl (by kernel_rfl) rfl (fun K hK => ?_)
      refine op_appQ infoItm rfl Tryz.underlying150 (by omega) _ _ rfl o2 rfl hO4 wr.drew.heap.size 1 (news := [quadI x]) rfl (fun j hj => by (obtain rfl : j = 0 := (by simp at hj; omega)); exact itm_new rfl) (fun j hj => by (obtain rfl : j = 0 := (by simp at hj; omega)); exact ⟨rfl, rfl⟩) (by have := HLi.out; simp; simp at this; omega) (by have h8 : wr.drew.heap.size = wr.heap.size := rfl; have := HO2.out; simp; omega) ?_
      intro v5 w5 hO5 hg5
      have hB5 := hO4.below hg5 (by have h8 : wr.drew.heap.size = wr.heap.size := rfl; have := HO2.out; simp; omega)
      have hS5 : R8S o1 i ad cp w w5 := ⟨hS4.1.below hB5 (by omega), up_below hS4.2 hB5 (by omega)⟩
      rw [HQ7.out] at hO5
      obtain ⟨a5, c5, rfl⟩ := hO5.shape
      rw [HLi1.out] at hO5
      rw [HLi1.out]
      change K (Act.put _ (some 20) _) _
      refine hK.out _ _ (.inr hS5) ?_
      clear hK
      try simp only [Act.put, List.setIfInBounds_toArray, List.set_cons_zero, List.set_cons_succ]
      refine anyE_take (i := 9) (v := ?_) 21 rfl rfl (by kernel_rfl) (by kernel_rfl) (by decide) (fun _ _ _ h => h) (by kernel_rfl) (by kernel_rfl) (.inl ⟨by rfl, fun u hu => ?_⟩) hS5 ?_
      rotate_left
      · (obtain ⟨u1, u2⟩ := R8S.cells hu; have u3 := HX.out.2 _ u2; go_simp; first | done | with_reducible rfl)
      simp only [Act.put, List.setIfInBounds_toArray, List.set_cons_zero, List.set_cons_succ]
      have k3 := hS5.1.val (i := 3) rfl
      have y3 := hS5.1.thawed 3
      refine anyE_one (i := 10) rfl (by kernel_rfl) rfl (fun K hK => ?_)
      go_simp
      refine hK.out _ _ (.inl rfl) (anyE_done (by kernel_rfl) ?_ _)
      clear hK
      have HL6 : Hid (Blk (w5.setCell ⟨o1, 3, none⟩ (.slice a5 (i + 1) c5)) o1 152 #[.int .i64 3, .int .i64 0, nilS, .slice a5 (i + 1) c5]) := hid (hS5.1.wrote 3 _)
      have HZ6 := hid ((((HZ.out.up hQ4)).below hB5 (by omega)).apart (a := ⟨o1, 3, none⟩) (show o ≠ o1 by omega) (.slice a5 (i + 1) c5))
      have HQ6 := hid (hO5.set (a := ⟨o1, 3, none⟩) (show o1 < o2 by omega) (.slice a5 (i + 1) c5))
      have HU6 := hid (hS5.2.setCell (a := ⟨o1, 3, none⟩) (show w.heap.size ≤ o1 by omega) (.slice a5 (i + 1) c5))
      clear hS hS4 hS5 k3 y3 hO4 hO5 hg5 hB5 hQ4 hz4 HB HX
      generalize w5.setCell ⟨o1, 3, none⟩ (.slice a5 (i + 1) c5) = w6 at *
      go_wp2_with fail
      go_roundw
      case rel => exact ⟨i + 1, a5, c5, by omega, by go_num, HL6, HZ6, HQ6, HU6⟩
      case measure => simp [intOf]; omega
    · obtain rfl : i = n := by omega
      have HQr : Hid (OwnQ 152 wr o2 (.slice ad i cp) (xs.map quadI)) := hid (by
        have := HQ.out
        rw [List.take_of_length_le (by rw [HN.out]; omega)] at this
        exact this)
      have k0 := HL.out.val (i := 0) rfl
      have k1 := HL.out.val (i := 1) rfl
      have k2 := HL.out.val (i := 2) rfl
      have k3 := HL.out.val (i := 3) rfl
      have z0 := HZ.out.val (i := 0) rfl
      have z1 := HZ.out.val (i := 1) rfl
      have z2 := HZ.out.val (i := 2) rfl
      have z3 := HZ.out.val (i := 3) rfl
      have y0 := HZ.out.thawed 0
      have y1 := HZ.out.thawed 1
      have y2 := HZ.out.thawed 2
      have y3 := HZ.out.thawed 3
      clear HQ
      go_wp2
      refine bodyPost_ret (v := itm 3 0 nilS (.slice ad i cp)) (results_cell_row rfl _ _ o 152 _ (0, 0) _ (by rfl) (blk_four HZ.out _ _ _ _) Tryz.underlying152 rfl (by kernel_rfl)) rfl ⟨.slice ad i cp, rfl, ?_, (((HU.out.setCell hlw _).setCell hlw _).setCell hlw _).setCell hlw _⟩
      refine itm_list ((((((HQr.out.set (a := ⟨o, 0, none⟩) (show o < o2 by omega) _).set (a := ⟨o, 1, none⟩) (show o < o2 by omega) _).set (a := ⟨o, 2, none⟩) (show o < o2 by omega) _).set (a := ⟨o, 3, none⟩) (show o < o2 by omega) _)).row (quadI_at _ 0 xs)) (by rw [List.length_map, HN.out]; exact hl)

end Go.Proofs.YtdlcmpbpdbpanaaGreatDoor
namespace Go.Proofs.YtdlcmpbpdbpanaaGreatDoor
open Go.RowKit Go.Sp
set_option maxHeartbeats 4000000
set_option maxRecDepth 20000

theorem r8Ints_ok (h : Nat → Int) (c : Int) (s : ByteArray) (v : Value) (xs : List Int) (w : World) (hB : Byt h) (c0 : 0 ≤ c) (c1 : c < 1000) (hs : Lab s) (hv : IntsAt w v xs) (hl : xs.length ≤ 1000) :
    Calls Tryz.prog 111 #[drw h c, .string s, v] w fun e w' => e = .returned (.tuple #[drw (absB h (txt s) (encInts xs)) (c + 1), .int .i64 0]) ∧ Up w w' := by
  have M1 := hid (fun w' (hU : Up w w') => r8List_ok v xs w' (hv.up hU) hl)
  have M2 := hid (fun w' (l : Value) (hU : Up w w') (hq : ItmAt w' 1 3 0 nilS l (encInts xs)) => r8Absorb_ok h c s 3 0 nilS l (encInts xs) w' hB c0 c1 hs hq.more.more.more.more.more (by rw [encInts_length]; omega) (encInts_byt xs))
  generalize absB h (txt s) (encInts xs) = H at *
  have HSz := hid (sizeTr h c)
  unfold drw at M2 ⊢
  generalize drwA h c = cs at *
  obtain ⟨av, nv, cv, rfl⟩ := ints_shape hv
  clear hB hs hv hl c0 c1
  obtain ⟨o, ho⟩ : ∃ o, w.heap.size = o := ⟨_, rfl⟩
  have HO := hid ho
  obtain ⟨o1, ho1⟩ : ∃ o1, o + 1 = o1 := ⟨_, rfl⟩
  have HO1 := hid ho1
  clear ho ho1
  go_enter Tryz.func111, Tryz.ntmps111
  go_wp2_with fail
  generalize hW : World.alloc _ _ = w0
  have HS0 : Hid (Blk w0 o 135 cs) := hid (by rw [← hW]; exact (Blk.new HO.out rfl).alloc _)
  have HZ0 : Hid (Blk w0 o1 135 (drwA zeroH 0)) := hid (by rw [← hW]; exact Blk.new (by have := HO.out; have := HO1.out; simp; omega) zero33)
  have HU0 : Hid (Up w w0) := hid (by rw [← hW]; exact ((Up.refl w).alloc _).alloc _)
  rw [HO.out, HO1.out]
  clear hW
  refine region_E (fun w' => Blk w' o 135 cs) 8 (by kernel_rfl) (HS0.out.up (Up.refl _).drew) fun hS => ?_
  refine anyE_take (i := 0) (v := .agg cs.toList.toArray) 8 rfl rfl (by kernel_rfl) (by kernel_rfl) (by decide) (fun _ _ _ h => h) (by kernel_rfl) (by kernel_rfl) (yieldsIf_load_mid (by rfl) 135 _ rfl o 0 rfl cs.toList _ (fun u hu => blk_range hu) Tryz.underlying135 rfl (by rw [Array.length_toList]; exact HSz.out)) hS ?_
  rw [Array.toArray_toList]
  simp only [Act.put, List.setIfInBounds_toArray, List.set_cons_zero, List.set_cons_succ]
  refine anyE_take (i := 1) (v := ?_) 9 rfl rfl (by kernel_rfl) (by kernel_rfl) (by decide) (fun _ _ _ h => h) (by kernel_rfl) (by kernel_rfl) (.inl ⟨by rfl, fun u hu => ?_⟩) hS ?_
  rotate_left
  · (go_simp; first | done | with_reducible rfl)
  simp only [Act.put, List.setIfInBounds_toArray, List.set_cons_zero, List.set_cons_succ]
  refine anyE_take (i := 2) (v := ?_) 10 rfl rfl (by kernel_rfl) (by kernel_rfl) (by decide) (fun _ _ _ h => h) (by kernel_rfl) (by kernel_rfl) (.inl ⟨by rfl, fun u hu => ?_⟩) hS ?_
  rotate_left
  · (go_simp; first | done | with_reducible rfl)
  simp only [Act.put, List.setIfInBounds_toArray, List.set_cons_zero, List.set_cons_succ]
  refine anyE_one (i := 3) rfl (by kernel_rfl) rfl (fun K hK => ?_)
  go_simp
  refine (M1.out _ (HU0.out.drew)).mono ?_
  rintro e w2 ⟨l2, rfl, hI2, hU2⟩
  dsimp only
  have hS2 := Blk.up hS hU2
  have hD2 := HU0.out.drew.trans hU2
  have hZ2 := (HZ0.out.up (Up.refl _).drew).up hU2
  refine hK.out _ _ (.inr hS2) ?_
  clear hK
  try simp only [Act.put, List.setIfInBounds_toArray, List.set_cons_zero, List.set_cons_succ]
  refine anyE_one (i := 4) rfl (by kernel_rfl) rfl (fun K hK => ?_)
  go_simp
  refine (M2.out _ l2 hD2 hI2).mono ?_
  rintro e w3 ⟨rfl, hU3⟩
  dsimp only
  have hS3 := Blk.up hS2 hU3
  have hD3 := hD2.trans hU3
  have hZ3 := hZ2.up hU3
  refine hK.out _ _ (.inr hS3) ?_
  clear hK
  try simp only [Act.put, List.setIfInBounds_toArray, List.set_cons_zero, List.set_cons_succ]
  refine anyE_take (i := 5) (v := ?_) 13 rfl rfl (by kernel_rfl) (by kernel_rfl) (by decide) (fun _ _ _ h => h) (by kernel_rfl) (by kernel_rfl) (.inl ⟨by rfl, fun u hu => ?_⟩) hS3 ?_
  rotate_left
  · (go_simp; first | done | with_reducible rfl)
  simp only [Act.put, List.setIfInBounds_toArray, List.set_cons_zero, List.set_cons_succ]
  refine anyE_take (i := 6) (v := ?_) 14 rfl rfl (by kernel_rfl) (by kernel_rfl) (by decide) (fun _ _ _ h => h) (by kernel_rfl) (by kernel_rfl) (.inl ⟨by rfl, fun u hu => ?_⟩) hS3 ?_
  rotate_left
  · (go_simp; first | done | with_reducible rfl)
  simp only [Act.put, List.setIfInBounds_toArray, List.set_cons_zero, List.set_cons_succ]
  refine anyE_one (i := 7) rfl (by kernel_rfl) rfl (fun K hK => ?_)
  refine op_store_row 135 _ _ rfl rfl o1 (drwA H (c + 1)) rfl rfl 135 (drwA zeroH 0) hZ3 (sizeTr _ _) (by rw [drwA_size, drwA_size]) (drwA_one _ _) ?_
  have hS4 : Blk (w3.setRow o1 (drwA H (c + 1))) o 135 cs := Blk.rowApart hS3 (by have := HO1.out; omega) _
  refine hK.out _ _ (.inr hS4) ?_
  clear hK
  refine anyE_one (i := 8) rfl (by kernel_rfl) rfl (fun K hK => ?_)
  go_simp
  refine hK.out _ _ (.inl rfl) (anyE_done (by kernel_rfl) ?_ _)
  clear hK
  go_wp2
  refine bodyPost_ret (v := .tuple #[.agg (drwA H (c + 1)), .int .i64 0]) (results_row_tmp Tryz.results111 _ _ o1 135 _ (0, 0) _ (by rfl) (hZ3.row _) Tryz.underlying135 rfl (sizeTr _ _)) rfl ⟨rfl, hD3.setRow (by have := HO.out; have := HO1.out; omega) _⟩

end Go.Proofs.YtdlcmpbpdbpanaaGreatDoor
