/- Package epoch, and its reference: Find. The reference of the transcript: labels, valid transcripts, valid items. The reference of the transcript: New, the frame. The reference of the transcript: Absorb. The reference of the transcript: Challenge. -/
import Derived.Test.YtoaomjdpiealfaaGreatDoorMB18
import Derived.Test.YtoaomjdpiealfaaGreatDoorMB15
import Derived.Test.YtoaomjdpiealfaaGreatDoorMB21
import Derived.Test.YtoaomjdpiealfaaGreatDoorMB16
import Derived.Test.YtoaomjdpiealfaaGreatDoorMB20
import Derived.Test.YtoaomjdpiealfaaGreatDoorMB17
namespace Go.Proofs.YtoaomjdpiealfaaGreatDoor
open Go.RowKit Go.Sp
set_option maxHeartbeats 4000000
set_option maxRecDepth 20000

/-- Has a record these numbers? -/
def trB (b n d : Int) (r : Rec) : Bool := r.kd == b && (r.nr == n && r.co == d)
theorem rFind_any (v : Value) (l : List Rec) (b n d : Int) (w : World) (hv : RecsAt w v l) :
    Calls Tryz.prog 130 #[v, .int .i64 b, .int .i64 n, .int .i64 d] w fun e w' => e = .returned (.int .i64 (idxK (trB b n d) l 0)) ∧ Up w w' := by
  have HV := hid hv
  obtain ⟨hlen, a, cap, rfl, _⟩ := hv
  obtain ⟨R, hR⟩ : ∃ R, idxK (trB b n d) l 0 = R := ⟨_, rfl⟩
  have HR := hid hR
  rw [hR]
  obtain ⟨m, hm⟩ : ∃ m, l.length = m := ⟨_, rfl⟩
  have HN := hid hm
  rw [hm] at HV hlen ⊢
  clear hR hm
  go_enter Tryz.func130, Tryz.ntmps130
  go_wp2_with fail
  go_loopw [9] (fun vi wr => ∃ i : Nat, i ≤ m ∧ vi = .int .i64 i ∧ Hid (idxK (trB b n d) l 0 = idxK (trB b n d) (l.drop i) i) ∧ Hid (Up w wr)) (fun vi _ => m - (intOf vi).toNat)
  case atStart => exact ⟨0, by omega, rfl, hid rfl, hid (Up.refl _)⟩
  case round =>
    obtain ⟨i, hi, rfl, HI, HU⟩ := hrel
    by_cases hl : i < m
    · have hlx : i < l.length := by rw [HN.out]; exact hl
      obtain ⟨g, off, rfl, hx2⟩ := recs_cell HV.out HU.out hlx
      have HI2 : Hid (idxK (trB b n d) l 0 = if trB b n d (l.getD i rec0) = true then (i : Int) else idxK (trB b n d) (l.drop (i + 1)) (i + 1)) := hid (by rw [HI.out, recs_drop hlx]; rfl)
      clear HI hlx
      generalize l.getD i rec0 = x at *
      obtain ⟨q0, q1, q2, q3, q4, q5, q6, q7, q8, q9, q10⟩ := hx2
      clear q3 q4 q5 q6 q7 q8 q9 q10
      obtain ⟨C, hC⟩ : ∃ C, trB b n d x = C := ⟨_, rfl⟩
      have HC : Hid (C = (x.kd == b && (x.nr == n && x.co == d))) := hid hC.symm
      rw [hC] at HI2
      obtain ⟨kd, nr, co, iv, ni, ka, kb, kc, st, un, ac⟩ := x
      dsimp only at q0 q1 q2 HC
      clear hC
      by_cases c0 : kd = b
      case neg =>
        have e0 : (kd == b) = false := by simpa using c0
        obtain rfl : C = false := by rw [HC.out, e0]; rfl
        clear c0 HC
        have HI3 : Hid (idxK (trB b n d) l 0 = idxK (trB b n d) (l.drop (i + 1)) (i + 1)) := hid (by rw [HI2.out]; rfl)
        clear HI2
        go_wp2_with fail
        go_roundw
        case rel => exact ⟨i + 1, by omega, by go_num, HI3, HU⟩
        case measure => simp [intOf]; omega
      have e0 : (kd == b) = true := by simpa using c0
      clear c0
      by_cases c1 : nr = n
      case neg =>
        have e1 : (nr == n) = false := by simpa using c1
        obtain rfl : C = false := by rw [HC.out, e0, e1]; rfl
        clear c1 HC
        have HI3 : Hid (idxK (trB b n d) l 0 = idxK (trB b n d) (l.drop (i + 1)) (i + 1)) := hid (by rw [HI2.out]; rfl)
        clear HI2
        go_wp2_with fail
        go_roundw
        case rel => exact ⟨i + 1, by omega, by go_num, HI3, HU⟩
        case measure => simp [intOf]; omega
      have e1 : (nr == n) = true := by simpa using c1
      clear c1
      by_cases c2 : co = d
      case neg =>
        have e2 : (co == d) = false := by simpa using c2
        obtain rfl : C = false := by rw [HC.out, e0, e1, e2]; rfl
        clear c2 HC
        have HI3 : Hid (idxK (trB b n d) l 0 = idxK (trB b n d) (l.drop (i + 1)) (i + 1)) := hid (by rw [HI2.out]; rfl)
        clear HI2
        go_wp2_with fail
        go_roundw
        case rel => exact ⟨i + 1, by omega, by go_num, HI3, HU⟩
        case measure => simp [intOf]; omega
      have e2 : (co == d) = true := by simpa using c2
      clear c2
      obtain rfl : C = true := by rw [HC.out, e0, e1, e2]; rfl
      have HB2 : Hid (R = (i : Int)) := hid (by rw [← HR.out, HI2.out]; rfl)
      clear HC HI2
      go_wp2
      go_ret
      exact ⟨by rw [HB2.out]; rfl, HU.out⟩
    · obtain rfl : i = m := by omega
      have hB2 : R = -1 := by rw [← HR.out, HI.out, List.drop_eq_nil_of_le (by rw [HN.out]; omega)]; rfl
      subst hB2
      go_wp2
      go_ret
      exact ⟨rfl, HU.out⟩
end Go.Proofs.YtoaomjdpiealfaaGreatDoor
namespace Go.Proofs.YtoaomjdpiealfaaGreatDoor
open Go.RowKit Go.Sp
set_option maxHeartbeats 4000000
set_option maxRecDepth 20000

theorem rlabel_ok (s : ByteArray) (w : World) (h : Lab s) : Calls Tryz.prog 213 #[.string s] w fun e w' => e = .returned (.bool true) ∧ Up w w' := by
  have d0 : decide ((s.size : Int) < 1) = false := by have := h.one; simp; omega
  have d1 : decide ((s.size : Int) > 24) = false := by have := h.max; simp; omega
  obtain ⟨m, hm⟩ : ∃ m, s.size = m := ⟨_, rfl⟩
  have hm2 : m ≤ 24 := by have := h.max; omega
  have HX : Hid (∀ i (hi : i < s.size), 33 ≤ ((s[i]'hi).toNat : Int) ∧ ((s[i]'hi).toNat : Int) ≤ 126) := hid (fun i hi => by
    refine h.chr _ ?_
    simp only [txt, List.mem_map]
    exact ⟨s[i]'hi, Array.mem_toList_iff.2 (Array.getElem_mem (xs := s.data) hi), rfl⟩)
  have HM := hid hm
  clear h hm
  go_enter Tryz.func213, Tryz.ntmps213
  go_wp2_with fail
  go_loopw [3] (fun vi wr => ∃ i : Nat, i ≤ m ∧ vi = .int .i64 i ∧ Hid (Up w wr)) (fun vi _ => m - (intOf vi).toNat)
  case atStart => exact ⟨0, by omega, rfl, hid (Up.refl _)⟩
  case round =>
    obtain ⟨i, him, rfl, HU⟩ := hrel
    by_cases hl : i < m
    · have hl3 : i < s.size := by have := HM.out; omega
      have hs1 : (i : Int) < s.size := by omega
      obtain ⟨x0, x1⟩ := HX.out i hl3
      have e0 : decide (((s[i]'hl3).toNat : Int) < 33) = false := by simp only [decide_eq_false_iff_not]; omega
      have e1 : decide (((s[i]'hl3).toNat : Int) > 126) = false := by simp only [decide_eq_false_iff_not]; omega
      have hs2 : decide ((i : Int) < s.size) = true := by simp; omega
      go_wp2_with fail
      go_roundw
      case rel => exact ⟨i + 1, by omega, by go_num, HU⟩
      case measure => simp [intOf]; omega
    · have hl4 : ¬ ((i : Int) < s.size) := by have := HM.out; omega
      go_wp2
      go_ret
      exact ⟨rfl, HU.out⟩

theorem r8Valid_ok (h : Nat → Int) (c : Int) (w : World) (c0 : 0 ≤ c) (c1 : c ≤ 1000) : Calls Tryz.prog 212 #[drw h c] w fun e w' => e = .returned (.bool true) ∧ Up w w' := by
  have hq := drwA_ctr h c
  unfold drw
  generalize drwA h c = cs at *
  have d0 : decide (c ≥ 0) = true := by simp; omega
  have d1 : decide (c ≤ 1000) = true := by simp; omega
  go_enter Tryz.func212, Tryz.ntmps212
  go_wp2
  go_ret
  exact ⟨rfl, (Up.refl w).alloc _⟩

theorem rval_int (n t : Int) (w : World) : Calls Tryz.prog 228 #[itm 1 n nilS nilS, .int .i64 t] w fun e w' => e = .returned (.bool true) ∧ Up w w' := by
  go_enter Tryz.func228, Tryz.ntmps228
  go_wp2
  go_ret
  exact ⟨rfl, (Up.refl w).alloc _⟩

theorem rval_bytes (a : Option Addr) (m c : Nat) (t : Int) (w : World) : Calls Tryz.prog 228 #[itm 2 0 (.slice a m c) nilS, .int .i64 t] w fun e w' => e = .returned (.bool true) ∧ Up w w' := by
  go_enter Tryz.func228, Tryz.ntmps228
  go_wp2
  go_ret
  exact ⟨rfl, (Up.refl w).alloc _⟩

theorem rval_list (l : Value) (ess : List (List Int)) (R : Int → Int → Value → Value → List Int → Prop) (t : Nat) (w : World) (hr : ItmRow R w l ess) (hl : ess.length ≤ 1000) (ht : t < 8)
    (hsh : ∀ k n b l es, R k n b l es → (∃ a m c, b = .slice a m c) ∧ ∃ a m c, l = .slice a m c)
    (hf : ∀ k n b l es, R k n b l es → ∀ w', Up w w' → Calls Tryz.prog 228 #[itm k n b l, .int .i64 ((t + 1 : Nat) : Int)] w' fun e w'' => e = .returned (.bool true) ∧ Up w' w'') :
    Calls Tryz.prog 228 #[itm 3 0 nilS l, .int .i64 t] w fun e w' => e = .returned (.bool true) ∧ Up w w' := by
  have HF := hid hf
  have HSh := hid hsh
  obtain ⟨a, cap, rfl, hc1, hc2, _, hi⟩ := hr
  obtain ⟨q, hq⟩ : ∃ q, ess.length = q := ⟨_, rfl⟩
  have HQ := hid hq
  rw [hq] at hl hc1 hi
  rw [hq]
  have HI := hid hi
  have d0 : decide ((q : Int) > 1000) = false := by simp; omega
  have d1 : ((t : Int) == 8) = false := by simp; omega
  have d2 : IntKind.i64.wrap ((t : Int) + 1) = ((t + 1 : Nat) : Int) := by rw [IntWalk.i64_in _ (by omega)]; omega
  obtain ⟨g, hg⟩ : ∃ g, w.heap.size = g := ⟨_, rfl⟩
  have HG := hid hg
  clear hq hi hf hsh hg
  go_enter Tryz.func228, Tryz.ntmps228
  have HX : Hid (Blk (w.alloc (.cells #[.int .i64 3, .int .i64 0, nilS, .slice a q cap] 142)) g 142 #[.int .i64 3, .int .i64 0, nilS, .slice a q cap]) := hid (Blk.new HG.out rfl)
  have HU := hid ((Up.refl w).alloc (.cells #[.int .i64 3, .int .i64 0, nilS, .slice a q cap] 142))
  go_wp2_with fail
  rw [HG.out]
  go_loopw [5] (fun vi wr => ∃ i : Nat, i ≤ q ∧ vi = .int .i64 i ∧ Hid (Blk wr g 142 #[.int .i64 3, .int .i64 0, nilS, .slice a q cap]) ∧ Hid (Up w wr)) (fun vi _ => q - (intOf vi).toNat)
  case atStart => exact ⟨0, by omega, rfl, HX, HU⟩
  case round =>
    clear HX HU
    obtain ⟨i, hiq, rfl, HX, HU⟩ := hrel
    have q1 := HX.out.val (i := 3) rfl
    by_cases hlt : i < q
    · obtain ⟨b, off, k, n, vb, vl, rfl, hc, hr⟩ := HI.out i hlt
      obtain ⟨c0, c1, c2, c3⟩ := hc.up HU.out
      obtain ⟨⟨ba, bn, bc, rfl⟩, la, ln, lc, rfl⟩ := HSh.out _ _ _ _ _ hr
      have HC := hid (fun w' hU => HF.out k n _ _ _ hr w' hU)
      have z1 : (i : Int) < q := by omega
      have z2 : i * 4 + 4 ≤ cap * 4 := by omega
      clear hc hr
      go_wp2_with fail
      refine (HC.out _ HU.out).mono ?_
      rintro e w4 ⟨rfl, hU4⟩
      have HX4 := hid (HX.out.up hU4)
      have HU4 := hid (HU.out.trans hU4)
      clear hU4 HX HU q1 c0 c1 c2 c3
      go_wp2_with fail
      go_roundw
      case rel => exact ⟨i + 1, by omega, by go_num, HX4, HU4⟩
      case measure => simp [intOf]; omega
    · have z1 : ¬((i : Int) < q) := by omega
      go_wp2
      go_ret
      exact ⟨rfl, HU.out⟩

theorem rval_ok : ∀ (d : Nat) (t : Nat) (k n : Int) (b l : Value) (es : List Int) (w : World), ItmAt w d k n b l es → d + t ≤ 8 → Calls Tryz.prog 228 #[itm k n b l, .int .i64 t] w fun e w' => e = .returned (.bool true) ∧ Up w w'
  | 0, t, _, n, _, _, _, w, .inl ⟨rfl, rfl, rfl, rfl⟩, _ => rval_int n t w
  | 0, t, _, _, b, _, _, w, .inr ⟨rfl, rfl, rfl, bs, h1, h2, _, rfl⟩, _ => by obtain ⟨va, vc, rfl, _, _⟩ := h1.shape; exact rval_bytes _ _ _ t w
  | _ + 1, t, _, n, _, _, _, w, .inl (.inl ⟨rfl, rfl, rfl, rfl⟩), _ => rval_int n t w
  | _ + 1, t, _, _, b, _, _, w, .inl (.inr ⟨rfl, rfl, rfl, bs, h1, h2, _, rfl⟩), _ => by obtain ⟨va, vc, rfl, _, _⟩ := h1.shape; exact rval_bytes _ _ _ t w
  | d + 1, t, _, _, _, l, _, w, .inr ⟨rfl, rfl, rfl, ess, h4, h5, rfl⟩, hl => rval_list l ess _ t w h5 h4 (by omega) (fun _ _ _ _ _ h => itm_shape h) fun k n b l es h w' hU => rval_ok d (t + 1) k n b l es w' (h.up hU) (by omega)

theorem rValid7_ok (d : Nat) (k n : Int) (b l : Value) (es : List Int) (w : World) (h : ItmAt w d k n b l es) (hd : d ≤ 8) : Calls Tryz.prog 215 #[itm k n b l] w fun e w' => e = .returned (.bool true) ∧ Up w w' := by
  have M := hid (fun w' (hU : Up w w') => rval_ok d 0 k n b l es w' (h.up hU) (by omega))
  obtain ⟨⟨ba, bn, bc, rfl⟩, la, ln, lc, rfl⟩ := itm_shape h
  clear h hd
  go_enter Tryz.func215, Tryz.ntmps215
  go_wp2_with fail
  refine (M.out _ ((Up.refl w).alloc _)).mono ?_
  rintro e w2 ⟨rfl, hU2⟩
  go_wp2
  go_ret
  exact ⟨rfl, ((Up.refl w).alloc _).trans hU2⟩
end Go.Proofs.YtoaomjdpiealfaaGreatDoor
namespace Go.Proofs.YtoaomjdpiealfaaGreatDoor
open Go.RowKit Go.Sp
set_option maxHeartbeats 4000000
set_option maxRecDepth 20000

theorem seq_set {k : IntKind} {w : World} {v : Value} {xs : List Int} (h : SeqAt k w v xs) {a : Addr} (ha : ∀ b off n c, v = .slice (some ⟨b, off, none⟩) n c → a.block ≠ b) (x : Value) : SeqAt k (w.setCell a x) v xs := by
  obtain ⟨p, cap, rfl, hle, hmx, hn, h3⟩ := h
  refine ⟨p, cap, rfl, hle, hmx, hn, fun hne => ?_⟩
  obtain ⟨b, off, rfl, hc⟩ := h3 hne
  exact ⟨b, off, rfl, fun i hi => by rw [World.cell?_setCell_other (h := fun he => ha b off _ _ rfl (by rw [he]))]; exact hc i hi⟩

theorem r8New_ok (s : ByteArray) (w : World) (hs : Lab s) :
    Calls Tryz.prog 181 #[.string s] w fun e w' => e = .returned (drw (trNew (txt s)) 0) ∧ Up w w' := by
  have HTg := hid (fun w' (v' : Value) (hv' : SeqAt .u8 w' v' (txt s)) => rTagged_any trTag v' (txt s) w' (by decide) hv' (by rw [txt_length]; have := hs.max; omega) (txt_byt s))
  rw [trTag_txt] at HTg
  have HV : Hid (trNew (txt s) = tagB tagTr (txt s)) := hid rfl
  generalize trNew (txt s) = H at *
  rw [← HV.out] at HTg
  have d2 : s.size ≤ 24 := hs.max
  have hcv := fun w' => run_bytes_of_string (P := Tryz.prog) w' 9 25 5 s Tryz.underlying9 Tryz.underlying25 Tryz.underlying5
  clear hs HV
  obtain ⟨o, ho⟩ : ∃ o, w.heap.size = o := ⟨_, rfl⟩
  have HO := hid ho
  clear ho
  go_enter Tryz.func181, Tryz.ntmps181
  have hZ := Blk.new (w := w) (t := 127) (g := o) HO.out zero33
  have HZ := hid hZ
  clear hZ
  go_wp2_with fail
  refine (HTg.out _ _ (seq_text_at (g := w.heap.size + 1) s _ _ _ (by simp) cap_ge (cap_le (by omega)))).mono ?_
  rintro e w2 ⟨rfl, hU2⟩
  have HZ2 := hid (((HZ.out.alloc _).up (Up.refl _).drew).up hU2)
  have HU2 := hid (((((Up.refl w).alloc _).alloc _).drew).trans hU2)
  rw [HO.out]
  clear hU2 HZ hcv
  have l0 := HZ2.out.lt
  unfold hashV
  go_wp2_with (first
    | (refine wpList_buildTo rfl 127 _ rfl _ rfl (drwA H 0) (by kernel_rfl) ?_)
    | (refine wpList_store_rowTo rfl 127 _ _ rfl rfl o (drwA H 0) rfl rfl 127 (drwA zeroH 0) HZ2.out (sizeTr _ _) (by rw [drwA_size, drwA_size]) (drwA_one _ _) ?_))
  refine bodyPost_ret (v := .agg (drwA H 0)) (results_cell_row rfl _ _ o 127 _ (0, 0) _ (by rfl) (HZ2.out.row _) Tryz.underlying127 rfl (sizeTr _ _)) rfl ⟨rfl, HU2.out.setRow (by have := HO.out; omega) _⟩

theorem r8frame_none (h : Nat → Int) (c : Int) (s : ByteArray) (w : World) (hB : Byt h) (hs : Lab s) :
    Calls Tryz.prog 214 #[drw h c, .string s, nilS] w fun e w' => ∃ l', e = .returned (itm 3 0 nilS l') ∧ ItmAt w' 7 3 0 nilS l' (frameE h (txt s) []) ∧ Up w w' := by
  have HF : Hid (frameE h (txt s) [] = encList [encBytes (hList h), encBytes (txt s)]) := hid rfl
  generalize frameE h (txt s) [] = F at *
  have HBh := hid hB
  have hget := fun i (hi : i < 32) => drwA_get h c hi
  have HG := hid hget
  have d2 : s.size ≤ 24 := hs.max
  have hcv := fun w' => run_bytes_of_string (P := Tryz.prog) w' 9 25 5 s Tryz.underlying9 Tryz.underlying25 Tryz.underlying5
  unfold drw
  generalize drwA h c = cs at *
  clear hB hs hget
  obtain ⟨o, ho⟩ : ∃ o, w.heap.size = o := ⟨_, rfl⟩
  have HO := hid ho
  obtain ⟨o1, ho1⟩ : ∃ o1, o + 1 = o1 := ⟨_, rfl⟩
  have HO1 := hid ho1
  obtain ⟨o2, ho2⟩ : ∃ o2, o1 + 1 = o2 := ⟨_, rfl⟩
  have HO2 := hid ho2
  clear ho ho1 ho2
  go_enter Tryz.func214, Tryz.ntmps214
  go_wp2_with (at_builtin; refine stopHere ?_)
  unfold Hid
  generalize hW : World.alloc _ _ = w0
  have HU0 : Hid (Up w w0) := hid (by rw [← hW]; exact ((((Up.refl w).alloc _).alloc _).alloc _))
  have HS0 : Hid (Blk w0 o 127 cs) := hid (by rw [← hW]; exact (((Blk.new HO.out rfl).alloc _).alloc _))
  have HZ0 : Hid (Blk w0 o1 142 #[.int .i64 0, .int .i64 0, nilS, nilS]) := hid (by rw [← hW]; exact ((Blk.new (by have := HO.out; have := HO1.out; simp; omega) rfl).alloc _))
  have HE0 : Hid (OwnS 5 .u8 w0 o2 (.slice (some ⟨o2, 0, none⟩) 0 0) []) := hid (by rw [← hW]; exact own_empty (Blk.new (by have := HO.out; have := HO1.out; have := HO2.out; simp; omega) rfl) (Nat.le_refl _))
  have hz : o2 ≤ w0.heap.size := by rw [← hW]; have := HO.out; have := HO1.out; have := HO2.out; simp; omega
  rw [HO.out, HO1.out, HO2.out]
  clear hW
  refine wp_app infoU8 Tryz.underlying25 (by omega) rfl _ _ rfl o2 (v := .slice (some ⟨o2, 0, none⟩) 0 0) rfl rfl HE0.out (seedAt HS0.out HG.out) (by rw [hList_length]; simp) hz ?_
  intro v3 w3 hO3 hg3
  have hB3 := below_own HE0.out hg3 hz
  have HU3 := hid (HU0.out.own HE0.out hg3 (by have := HO.out; have := HO1.out; have := HO2.out; omega))
  have HZ3 := hid (HZ0.out.below hB3 (by have := HO2.out; omega))
  rw [List.nil_append] at hO3
  have HI3 := hid hO3.seq
  obtain ⟨a3, c3, rfl, _, _⟩ := hO3.shape
  have HIn : Hid (∀ b off n c, Value.slice a3 (hList h).length c3 = .slice (some ⟨b, off, none⟩) n c → o2 ≤ b ∧ b < w3.heap.size) := hid (fun b off n c he => by
    refine ⟨hO3.block b (by rw [he]; rfl), ?_⟩
    have hs := hO3.seq
    rw [he] at hs
    exact hs.inside (fun hn => by have := hList_length h; rw [hn] at this; cases this))
  clear hO3 hg3 hB3 HU0 HS0 HZ0 HE0 hz
  simp only [hList_length] at HI3 HIn ⊢
  obtain ⟨g, hg⟩ : ∃ g, w3.heap.size = g := ⟨_, rfl⟩
  have HGg := hid hg
  obtain ⟨g1, hg1⟩ : ∃ g1, g + 1 = g1 := ⟨_, rfl⟩
  have HG1 := hid hg1
  have l0 := HZ3.out.lt
  clear hg hg1
  go_wp2_with (at_builtin; refine stopHere ?_)
  unfold Hid
  clear hcv
  generalize hcp : grownCap _ _ _ _ = cp
  generalize hW : World.alloc _ _ = w4
  have hc0 : s.size ≤ cp := by rw [← hcp]; exact cap_ge
  have hc1 : cp ≤ 9223372036854775807 := by rw [← hcp]; exact cap_le (by omega)
  have HU4 : Hid (Up w w4.drew) := hid (by rw [← hW]; exact ((HU3.out.alloc _).alloc _).drew)
  have HZ4 : Hid (Blk w4.drew o1 142 #[.int .i64 0, .int .i64 0, nilS, nilS]) := hid (by rw [← hW]; exact ((HZ3.out.alloc _).alloc _).up (Up.refl _).drew)
  have HI4 : Hid (SeqAt .u8 w4.drew (.slice a3 32 c3) (hList h)) := hid (by rw [← hW]; exact HI3.out.up (((Up.refl _).alloc _).alloc _).drew)
  have HX4 : Hid (SeqAt .u8 w4.drew (.slice (some ⟨g, 0, none⟩) s.size cp) (txt s)) := hid (by
    rw [← hW]
    have h := seq_text w3 s cp 5 ((bytesRow s cp).size, (bytesRow s cp).size + 1) hc0 hc1
    rw [HGg.out] at h
    exact (h.up ((Up.refl _).alloc _)).up (Up.refl _).drew)
  have HQ4 : Hid (OwnQ 142 w4.drew g1 (.slice (some ⟨g1, 0, none⟩) 2 2) [⟨2, 0, .slice a3 32 c3, nilS⟩, ⟨2, 0, .slice (some ⟨g, 0, none⟩) s.size cp, nilS⟩]) := hid (by
    rw [← hW, HGg.out]
    exact (own_two (by have := HGg.out; have := HG1.out; simp; omega) (Nat.le_refl _)).up (Up.refl _).drew)
  rw [HGg.out, HG1.out]
  clear hcp hW HU3 HZ3 HI3
  have lg : o1 < g := by have := HGg.out; omega
  have hz : g1 ≤ w4.drew.heap.size := by have := OwnQ.inside HQ4.out g1 rfl; omega
  clear l0
  generalize w4.drew = w5 at *
  refine wp_appQ_none infoItm Tryz.underlying140 rfl _ _ rfl g1 rfl HQ4.out rfl ?_
  have HU5 := HU4
  have HZ5 := HZ4
  have HI5 := HI4
  have HX5 := HX4
  have HQ5 := HQ4
  clear HU4 HZ4 HI4 HX4 HQ4
  have z0 := HZ5.out.val (i := 0) rfl
  have z1 := HZ5.out.val (i := 1) rfl
  have z2 := HZ5.out.val (i := 2) rfl
  have z3 := HZ5.out.val (i := 3) rfl
  have y0 := HZ5.out.thawed 0
  have y1 := HZ5.out.thawed 1
  have y2 := HZ5.out.thawed 2
  have y3 := HZ5.out.thawed 3
  have hlw : w.heap.size ≤ o1 := by have := HO.out; have := HO1.out; omega
  have ho2 : o1 < o2 := by have := HO2.out; omega
  have hg1 : o1 < g1 := by have := HG1.out; omega
  go_wp2
  have HUf : Up w ((((w5.setCell ⟨o1, 0, none⟩ (.int .i64 3)).setCell ⟨o1, 1, none⟩ (.int .i64 0)).setCell ⟨o1, 2, none⟩ nilS).setCell ⟨o1, 3, none⟩ (.slice (some ⟨g1, 0, none⟩) 2 2)) := (((HU5.out.setCell hlw _).setCell hlw _).setCell hlw _).setCell hlw _
  refine bodyPost_ret (v := itm 3 0 nilS (.slice (some ⟨g1, 0, none⟩) 2 2)) (results_cell_row rfl _ _ o1 142 _ (0, 0) _ (by rfl) (blk_four HZ5.out _ _ _ _) Tryz.underlying142 rfl (by kernel_rfl)) rfl ⟨.slice (some ⟨g1, 0, none⟩) 2 2, rfl, ?_, HUf⟩
  rw [HF.out]
  have hne : ∀ b off n c, Value.slice (some ⟨g, 0, none⟩) s.size cp = .slice (some ⟨b, off, none⟩) n c → o1 ≠ b := fun b off n c he => by
    have h := (Value.slice.inj he).1
    injection h with h
    injection h with h _ _
    omega
  have hni : ∀ b off n c, Value.slice a3 32 c3 = .slice (some ⟨b, off, none⟩) n c → o1 ≠ b := fun b off n c he => by
    have := (HIn.out b off n c he).1
    omega
  have A1 := (seq_set (seq_set (seq_set (seq_set HI5.out (a := ⟨o1, 0, none⟩) hni (.int .i64 3)) (a := ⟨o1, 1, none⟩) hni (.int .i64 0)) (a := ⟨o1, 2, none⟩) hni (nilS)) (a := ⟨o1, 3, none⟩) hni (.slice (some ⟨g1, 0, none⟩) 2 2))
  have A2 := (seq_set (seq_set (seq_set (seq_set HX5.out (a := ⟨o1, 0, none⟩) hne (.int .i64 3)) (a := ⟨o1, 1, none⟩) hne (.int .i64 0)) (a := ⟨o1, 2, none⟩) hne (nilS)) (a := ⟨o1, 3, none⟩) hne (.slice (some ⟨g1, 0, none⟩) 2 2))
  have A3 := (((HQ5.out.set (a := ⟨o1, 0, none⟩) hg1 (.int .i64 3)).set (a := ⟨o1, 1, none⟩) hg1 (.int .i64 0)).set (a := ⟨o1, 2, none⟩) hg1 nilS).set (a := ⟨o1, 3, none⟩) hg1 (.slice (some ⟨g1, 0, none⟩) 2 2)
  exact itm_list (A3.row (QuadAt.app (QuadAt.one (itm_bytes A1 (by rw [hList_length]; omega) (hList_bytes HBh.out) 6)) (QuadAt.one (itm_bytes A2 (by rw [txt_length]; omega) (txt_byt s) 6)))) (by simp)

theorem r8frame_one (h : Nat → Int) (c : Int) (s : ByteArray) (g0 : Nat) (q : Quad) (es : List Int) (w : World) (hB : Byt h) (hs : Lab s) (hc : ItmCells w g0 0 q.k q.n q.b q.l) (hq : ItmAt w 6 q.k q.n q.b q.l es) :
    Calls Tryz.prog 214 #[drw h c, .string s, .slice (some ⟨g0, 0, none⟩) 1 1] w fun e w' => ∃ l', e = .returned (itm 3 0 nilS l') ∧ ItmAt w' 7 3 0 nilS l' (frameE h (txt s) [es]) ∧ Up w w' := by
  have HF : Hid (frameE h (txt s) [es] = encList [encBytes (hList h), encBytes (txt s), es]) := hid rfl
  generalize frameE h (txt s) [es] = F at *
  have HBh := hid hB
  have hget := fun i (hi : i < 32) => drwA_get h c hi
  have HG := hid hget
  have d2 : s.size ≤ 24 := hs.max
  have HC := hid hc
  have HQ := hid hq
  have hcv := fun w' => run_bytes_of_string (P := Tryz.prog) w' 9 25 5 s Tryz.underlying9 Tryz.underlying25 Tryz.underlying5
  unfold drw
  generalize drwA h c = cs at *
  clear hB hs hget hc hq
  obtain ⟨o, ho⟩ : ∃ o, w.heap.size = o := ⟨_, rfl⟩
  have HO := hid ho
  obtain ⟨o1, ho1⟩ : ∃ o1, o + 1 = o1 := ⟨_, rfl⟩
  have HO1 := hid ho1
  obtain ⟨o2, ho2⟩ : ∃ o2, o1 + 1 = o2 := ⟨_, rfl⟩
  have HO2 := hid ho2
  clear ho ho1 ho2
  go_enter Tryz.func214, Tryz.ntmps214
  go_wp2_with (at_builtin; refine stopHere ?_)
  unfold Hid
  generalize hW : World.alloc _ _ = w0
  have HU0 : Hid (Up w w0) := hid (by rw [← hW]; exact ((((Up.refl w).alloc _).alloc _).alloc _))
  have HS0 : Hid (Blk w0 o 127 cs) := hid (by rw [← hW]; exact (((Blk.new HO.out rfl).alloc _).alloc _))
  have HZ0 : Hid (Blk w0 o1 142 #[.int .i64 0, .int .i64 0, nilS, nilS]) := hid (by rw [← hW]; exact ((Blk.new (by have := HO.out; have := HO1.out; simp; omega) rfl).alloc _))
  have HE0 : Hid (OwnS 5 .u8 w0 o2 (.slice (some ⟨o2, 0, none⟩) 0 0) []) := hid (by rw [← hW]; exact own_empty (Blk.new (by have := HO.out; have := HO1.out; have := HO2.out; simp; omega) rfl) (Nat.le_refl _))
  have hz : o2 ≤ w0.heap.size := by rw [← hW]; have := HO.out; have := HO1.out; have := HO2.out; simp; omega
  rw [HO.out, HO1.out, HO2.out]
  clear hW
  refine wp_app infoU8 Tryz.underlying25 (by omega) rfl _ _ rfl o2 (v := .slice (some ⟨o2, 0, none⟩) 0 0) rfl rfl HE0.out (seedAt HS0.out HG.out) (by rw [hList_length]; simp) hz ?_
  intro v3 w3 hO3 hg3
  have hB3 := below_own HE0.out hg3 hz
  have HU3 := hid (HU0.out.own HE0.out hg3 (by have := HO.out; have := HO1.out; have := HO2.out; omega))
  have HZ3 := hid (HZ0.out.below hB3 (by have := HO2.out; omega))
  rw [List.nil_append] at hO3
  have HI3 := hid hO3.seq
  obtain ⟨a3, c3, rfl, _, _⟩ := hO3.shape
  have HIn : Hid (∀ b off n c, Value.slice a3 (hList h).length c3 = .slice (some ⟨b, off, none⟩) n c → o2 ≤ b ∧ b < w3.heap.size) := hid (fun b off n c he => by
    refine ⟨hO3.block b (by rw [he]; rfl), ?_⟩
    have hs := hO3.seq
    rw [he] at hs
    exact hs.inside (fun hn => by have := hList_length h; rw [hn] at this; cases this))
  clear hO3 hg3 hB3 HU0 HS0 HZ0 HE0 hz
  simp only [hList_length] at HI3 HIn ⊢
  obtain ⟨g, hg⟩ : ∃ g, w3.heap.size = g := ⟨_, rfl⟩
  have HGg := hid hg
  obtain ⟨g1, hg1⟩ : ∃ g1, g + 1 = g1 := ⟨_, rfl⟩
  have HG1 := hid hg1
  have l0 := HZ3.out.lt
  clear hg hg1
  go_wp2_with (at_builtin; refine stopHere ?_)
  unfold Hid
  clear hcv
  generalize hcp : grownCap _ _ _ _ = cp
  generalize hW : World.alloc _ _ = w4
  have hc0 : s.size ≤ cp := by rw [← hcp]; exact cap_ge
  have hc1 : cp ≤ 9223372036854775807 := by rw [← hcp]; exact cap_le (by omega)
  have HU4 : Hid (Up w w4.drew) := hid (by rw [← hW]; exact ((HU3.out.alloc _).alloc _).drew)
  have HZ4 : Hid (Blk w4.drew o1 142 #[.int .i64 0, .int .i64 0, nilS, nilS]) := hid (by rw [← hW]; exact ((HZ3.out.alloc _).alloc _).up (Up.refl _).drew)
  have HI4 : Hid (SeqAt .u8 w4.drew (.slice a3 32 c3) (hList h)) := hid (by rw [← hW]; exact HI3.out.up (((Up.refl _).alloc _).alloc _).drew)
  have HX4 : Hid (SeqAt .u8 w4.drew (.slice (some ⟨g, 0, none⟩) s.size cp) (txt s)) := hid (by
    rw [← hW]
    have h := seq_text w3 s cp 5 ((bytesRow s cp).size, (bytesRow s cp).size + 1) hc0 hc1
    rw [HGg.out] at h
    exact (h.up ((Up.refl _).alloc _)).up (Up.refl _).drew)
  have HQ4 : Hid (OwnQ 142 w4.drew g1 (.slice (some ⟨g1, 0, none⟩) 2 2) [⟨2, 0, .slice a3 32 c3, nilS⟩, ⟨2, 0, .slice (some ⟨g, 0, none⟩) s.size cp, nilS⟩]) := hid (by
    rw [← hW, HGg.out]
    exact (own_two (by have := HGg.out; have := HG1.out; simp; omega) (Nat.le_refl _)).up (Up.refl _).drew)
  rw [HGg.out, HG1.out]
  clear hcp hW HU3 HZ3 HI3
  have lg : o1 < g := by have := HGg.out; omega
  have hz : g1 ≤ w4.drew.heap.size := by have := OwnQ.inside HQ4.out g1 rfl; omega
  clear l0
  generalize w4.drew = w5 at *
  refine wp_appQ infoItm rfl Tryz.underlying140 (by omega) rfl _ _ rfl g1 rfl HQ4.out g0 1 (news := [q]) rfl (fun j hj => by
    obtain rfl : j = 0 := by simp at hj; omega
    exact HC.out.up HU4.out) (fun j hj => by
    obtain rfl : j = 0 := by simp at hj; omega
    exact HQ.out.one) (by simp) hz ?_
  intro v6 w6 hO6 hg6
  have hB6 := HQ4.out.below hg6 hz
  have HU5 := hid (up_below HU4.out hB6 (by have := HO.out; have := HO1.out; have := HG1.out; omega))
  have HZ5 := hid (HZ4.out.below hB6 (by have := HG1.out; omega))
  have HI5 := hid (HI4.out.below hB6 (fun b off n c he => by have := (HIn.out b off n c he).2; have := HGg.out; have := HG1.out; omega))
  have HX5 := hid (HX4.out.below hB6 (fun b off n c he => by
    have h := (Value.slice.inj he).1
    injection h with h
    injection h with h _ _
    have := HG1.out
    omega))
  obtain ⟨a6, c6, rfl⟩ := hO6.shape
  change OwnQ _ _ _ (.slice a6 3 c6) _ at hO6
  change wpList _ _ _ _ (Act.put _ _ (.slice a6 3 c6)) _
  have HQ5 := hid hO6
  clear HU4 HZ4 HI4 HX4 HQ4 hO6 hg6 hB6
  have z0 := HZ5.out.val (i := 0) rfl
  have z1 := HZ5.out.val (i := 1) rfl
  have z2 := HZ5.out.val (i := 2) rfl
  have z3 := HZ5.out.val (i := 3) rfl
  have y0 := HZ5.out.thawed 0
  have y1 := HZ5.out.thawed 1
  have y2 := HZ5.out.thawed 2
  have y3 := HZ5.out.thawed 3
  have hlw : w.heap.size ≤ o1 := by have := HO.out; have := HO1.out; omega
  have ho2 : o1 < o2 := by have := HO2.out; omega
  have hg1 : o1 < g1 := by have := HG1.out; omega
  go_wp2
  have HUf : Up w ((((w6.setCell ⟨o1, 0, none⟩ (.int .i64 3)).setCell ⟨o1, 1, none⟩ (.int .i64 0)).setCell ⟨o1, 2, none⟩ nilS).setCell ⟨o1, 3, none⟩ (.slice a6 3 c6)) := (((HU5.out.setCell hlw _).setCell hlw _).setCell hlw _).setCell hlw _
  refine bodyPost_ret (v := itm 3 0 nilS (.slice a6 3 c6)) (results_cell_row rfl _ _ o1 142 _ (0, 0) _ (by rfl) (blk_four HZ5.out _ _ _ _) Tryz.underlying142 rfl (by kernel_rfl)) rfl ⟨.slice a6 3 c6, rfl, ?_, HUf⟩
  rw [HF.out]
  have hne : ∀ b off n c, Value.slice (some ⟨g, 0, none⟩) s.size cp = .slice (some ⟨b, off, none⟩) n c → o1 ≠ b := fun b off n c he => by
    have h := (Value.slice.inj he).1
    injection h with h
    injection h with h _ _
    omega
  have hni : ∀ b off n c, Value.slice a3 32 c3 = .slice (some ⟨b, off, none⟩) n c → o1 ≠ b := fun b off n c he => by
    have := (HIn.out b off n c he).1
    omega
  have A1 := (seq_set (seq_set (seq_set (seq_set HI5.out (a := ⟨o1, 0, none⟩) hni (.int .i64 3)) (a := ⟨o1, 1, none⟩) hni (.int .i64 0)) (a := ⟨o1, 2, none⟩) hni (nilS)) (a := ⟨o1, 3, none⟩) hni (.slice a6 3 c6))
  have A2 := (seq_set (seq_set (seq_set (seq_set HX5.out (a := ⟨o1, 0, none⟩) hne (.int .i64 3)) (a := ⟨o1, 1, none⟩) hne (.int .i64 0)) (a := ⟨o1, 2, none⟩) hne (nilS)) (a := ⟨o1, 3, none⟩) hne (.slice a6 3 c6))
  have A3 := (((HQ5.out.set (a := ⟨o1, 0, none⟩) hg1 (.int .i64 3)).set (a := ⟨o1, 1, none⟩) hg1 (.int .i64 0)).set (a := ⟨o1, 2, none⟩) hg1 nilS).set (a := ⟨o1, 3, none⟩) hg1 (.slice a6 3 c6)
  exact itm_list (A3.row (QuadAt.app (QuadAt.one (itm_bytes A1 (by rw [hList_length]; omega) (hList_bytes HBh.out) 6)) (QuadAt.app (QuadAt.one (itm_bytes A2 (by rw [txt_length]; omega) (txt_byt s) 6)) (QuadAt.one (HQ.out.up HUf))))) (by simp)

end Go.Proofs.YtoaomjdpiealfaaGreatDoor
namespace Go.Proofs.YtoaomjdpiealfaaGreatDoor
open Go.RowKit Go.Sp
set_option maxHeartbeats 4000000
set_option maxRecDepth 20000

theorem op_build_to {P : Program} {o : Oper} {a : Act} {w : World} {K : Act → World → Prop} {Q : Exit → Act → World → Prop} (t : TypeId) (parts : Array (Nat × Operand)) (ho : o.op = .build t parts)
    (d : Option Tmp) (hd : o.dst = d) (cells : Array Value) (hf : P.built t (parts.map fun (i, x) => (i, a.eval x)).toList = some cells) (h : K (a.put d (.agg cells)) w) : o.wp P a w K Q := by
  subst hd
  refine wp_build t parts ho (by rw [hf]; rfl) ?_
  rw [hf]
  exact h

theorem r8Absorb_ok (h : Nat → Int) (c : Int) (s : ByteArray) (k n : Int) (b l : Value) (es : List Int) (w : World) (hB : Byt h) (c0 : 0 ≤ c) (c1 : c < 1000) (hs : Lab s) (hq : ItmAt w 6 k n b l es) (hl : es.length ≤ 16000) (hes : ∀ x ∈ es, 0 ≤ x ∧ x ≤ 255) :
    Calls Tryz.prog 183 #[drw h c, .string s, itm k n b l] w fun e w' => e = .returned (.tuple #[drw (absB h (txt s) es) (c + 1), .int .i64 0]) ∧ Up w w' := by
  have HV : Hid (absB h (txt s) es = tagB (txt absTag) (frameE h (txt s) [es])) := hid (by rw [absTag_txt]; rfl)
  have hFl : (frameE h (txt s) [es]).length ≤ 16384 := by rw [frameE_length, txt_length]; have := hs.max; simp; omega
  have hFb : ∀ x ∈ frameE h (txt s) [es], 0 ≤ x ∧ x ≤ 255 := frameE_byt hB (txt_byt s) (fun e he => by simp at he; subst he; exact hes)
  have M1 := hid (fun w' => r8Valid_ok h c w' c0 (by omega))
  have M2 := hid (fun w' => rlabel_ok s w' hs)
  have M3 := hid (fun w' (g0 : Nat) (hU : Up w w') (hc : ItmCells w' g0 0 k n b l) => r8frame_one h c s g0 ⟨k, n, b, l⟩ es w' hB hs hc (hq.up hU))
  have M6 := hid (fun w' (v' : Value) (hv' : SeqAt .u8 w' v' (frameE h (txt s) [es])) => rTagged_any absTag v' (frameE h (txt s) [es]) w' (by decide) hv' (by omega) hFb)
  rw [← HV.out] at M6
  generalize absB h (txt s) es = H at *
  generalize frameE h (txt s) [es] = F at *
  have M4 := hid (fun w' (l' : Value) (hi : ItmAt w' 7 3 0 nilS l' F) => rValid7_ok 7 3 0 nilS l' F w' hi (by omega))
  have M5 := hid (fun w' (l' : Value) (hi : ItmAt w' 7 3 0 nilS l' F) => renc_ok 7 3 0 nilS l' F w' hi (by omega))
  obtain ⟨⟨ba, bn, bc, rfl⟩, la, ln, lc, rfl⟩ := itm_shape hq
  have hctr := drwA_ctr h c
  have HCt := hid hctr
  have HSz := hid (sizeTr h c)
  unfold drw at M1 M3 ⊢
  generalize drwA h c = cs at *
  have dc : (c == 1000) = false := by simp; omega
  have hwr : IntKind.i64.wrap (c + 1) = c + 1 := IntWalk.i64_in _ (by omega)
  clear hB hs hq hl hes HV hctr hFb
  obtain ⟨o, ho⟩ : ∃ o, w.heap.size = o := ⟨_, rfl⟩
  have HO := hid ho
  obtain ⟨o1, ho1⟩ : ∃ o1, o + 1 = o1 := ⟨_, rfl⟩
  have HO1 := hid ho1
  obtain ⟨o2, ho2⟩ : ∃ o2, o1 + 1 = o2 := ⟨_, rfl⟩
  have HO2 := hid ho2
  clear ho ho1 ho2
  go_enter Tryz.func183, Tryz.ntmps183
  have hB0 := Blk.new (w := w) (t := 127) (cs := cs) (g := w.heap.size) rfl rfl
  go_wp2_with (refine wpList_load_row rfl 127 _ rfl w.heap.size rfl 127 cs (0, 0) _ ((hB0.alloc _).alloc _) Tryz.underlying127 rfl HSz.out ?_)
  refine (M1.out _).mono ?_
  rintro e w1 ⟨rfl, hU1⟩
  have HS1 := hid (((Blk.new (w := w) (t := 127) (cs := cs) (g := o) HO.out rfl).up (((Up.refl _).alloc _).alloc _)).up hU1)
  have HI1 := hid (((Blk.new (g := o1) (t := 142) (by have := HO.out; have := HO1.out; simp; omega) rfl).up ((Up.refl _).alloc _)).up hU1)
  have HZ1 : Hid (Blk w1 o2 127 (drwA zeroH 0)) := hid ((Blk.new (g := o2) (t := 127) (by have := HO.out; have := HO1.out; have := HO2.out; simp; omega) zero33).up hU1)
  have HU1 := hid (((((Up.refl w).alloc _).alloc _).alloc _).trans hU1)
  rw [HO.out, HO1.out, HO2.out]
  clear hU1 hB0
  go_wp2_with fail
  refine (M2.out _).mono ?_
  rintro e w2 ⟨rfl, hU2⟩
  have HS2 := hid (HS1.out.up hU2)
  have HI2 := hid (HI1.out.up hU2)
  have HZ2 := hid (HZ1.out.up hU2)
  have HU2 := hid (HU1.out.trans hU2)
  clear hU2 HS1 HI1 HZ1 HU1
  have i0 := HI2.out.val (i := 0) rfl
  have i1 := HI2.out.val (i := 1) rfl
  have i2 := HI2.out.val (i := 2) rfl
  have i3 := HI2.out.val (i := 3) rfl
  go_wp2_with (refine wpList_load_row rfl 127 _ rfl o rfl 127 cs (0, 0) _ HS2.out Tryz.underlying127 rfl HSz.out ?_)
  refine (M3.out _ w2.heap.size (HU2.out.alloc _) (itm_new rfl)).mono ?_
  rintro e w3 ⟨l3, rfl, hI3, hU3⟩
  have hU3 := ((Up.refl w2).alloc _).trans hU3
  have HS3 := hid (HS2.out.up hU3)
  have HZ3 := hid (HZ2.out.up hU3)
  have HU3 := hid (HU2.out.trans hU3)
  have HF3 := hid hI3
  obtain ⟨_, l3a, l3n, l3c, rfl⟩ := itm_shape hI3
  clear hU3 hI3 HS2 HI2 HZ2 HU2 i0 i1 i2 i3
  obtain ⟨g, hg⟩ : ∃ g, w3.heap.size = g := ⟨_, rfl⟩
  have HGg := hid hg
  clear hg
  go_wp2_with fail
  refine (M4.out _ _ (HF3.out.up ((Up.refl _).alloc _))).mono ?_
  rintro e w4 ⟨rfl, hU4⟩
  have HD4 := hid ((Blk.new (w := w3) (t := 142) (cs := #[.int .i64 3, .int .i64 0, nilS, .slice l3a l3n l3c]) HGg.out rfl).up hU4)
  have hU4 := ((Up.refl w3).alloc _).trans hU4
  have HS4 := hid (HS3.out.up hU4)
  have HZ4 := hid (HZ3.out.up hU4)
  have HF4 := hid (HF3.out.up hU4)
  have HU4 := hid (HU3.out.trans hU4)
  rw [HGg.out]
  clear hU4 HS3 HZ3 HF3 HU3
  have k0 := HD4.out.val (i := 0) rfl
  have k1 := HD4.out.val (i := 1) rfl
  have k2 := HD4.out.val (i := 2) rfl
  have k3 := HD4.out.val (i := 3) rfl
  go_wp2_with fail
  refine (M5.out _ _ HF4.out).mono ?_
  rintro e w5 ⟨v5, rfl, hO5, hU5⟩
  have HX5 := hid hO5.seq
  obtain ⟨a5, c5, rfl, _, _⟩ := hO5.shape
  have HS5 := hid (HS4.out.up hU5)
  have HZ5 := hid (HZ4.out.up hU5)
  have HU5 := hid (HU4.out.trans hU5)
  clear hU5 hO5 HS4 HZ4 HF4 HU4 HD4 k0 k1 k2 k3
  have q32 : w5.cell? ⟨o, 32, none⟩ = some (.int .i64 c) := HS5.out.val HCt.out
  have dl : decide ((F.length : Int) > 16384) = false := by simp; omega
  go_wp2_with fail
  clear q32
  refine region_E (fun w' => Blk w' o 127 cs) 7 (by kernel_rfl) (HS5.out.up (Up.refl _).drew) fun hS => ?_
  refine anyE_take (i := 0) (v := ?_) 39 rfl rfl (by kernel_rfl) (by kernel_rfl) (by decide) (fun _ _ _ h => h) (by kernel_rfl) (by kernel_rfl) (.inl ⟨by rfl, fun u hu => ?_⟩) hS ?_
  rotate_left
  · (go_simp; first | done | with_reducible rfl)
  simp only [Act.put, List.setIfInBounds_toArray, List.set_cons_zero, List.set_cons_succ]
  refine anyE_take (i := 2) (v := ?_) 41 rfl rfl (by kernel_rfl) (by kernel_rfl) (by decide) (fun _ _ _ h => h) (by kernel_rfl) (by kernel_rfl) (.inl ⟨by rfl, fun u hu => ?_⟩) hS ?_
  rotate_left
  · (go_simp; first | done | with_reducible rfl)
  simp only [Act.put, List.setIfInBounds_toArray, List.set_cons_zero, List.set_cons_succ]
  refine anyE_take (i := 3) (v := ?_) 42 rfl rfl (by kernel_rfl) (by kernel_rfl) (by decide) (fun _ _ _ h => h) (by kernel_rfl) (by kernel_rfl) (.inl ⟨by rfl, fun u hu => ?_⟩) hS ?_
  rotate_left
  · (have q32 := Blk.val hu HCt.out; go_simp; first | done | with_reducible rfl)
  simp only [Act.put, List.setIfInBounds_toArray, List.set_cons_zero, List.set_cons_succ]
  refine anyE_take (i := 4) (v := ?_) 43 rfl rfl (by kernel_rfl) (by kernel_rfl) (by decide) (fun _ _ _ h => h) (by kernel_rfl) (by kernel_rfl) (.inl ⟨by rfl, fun u hu => ?_⟩) hS ?_
  rotate_left
  · (go_simp; first | done | with_reducible rfl)
  simp only [Act.put, List.setIfInBounds_toArray, List.set_cons_zero, List.set_cons_succ]
  refine anyE_one (i := 1) rfl (by kernel_rfl) rfl (fun K hK => ?_)
  go_simp
  refine (M6.out _ _ (HX5.out.up (Up.refl _).drew)).mono ?_
  rintro e w6 ⟨rfl, hU6⟩
  dsimp only
  have hS6 := Blk.up hS hU6
  have hD6 := HU5.out.drew.trans hU6
  have hZ6 := (HZ5.out.up (Up.refl _).drew).up hU6
  refine hK.out _ _ (.inr hS6) ?_
  clear hK
  unfold hashV
  try simp only [Act.put, List.setIfInBounds_toArray, List.set_cons_zero, List.set_cons_succ]
  refine anyE_one (i := 5) rfl (by kernel_rfl) rfl (fun K hK => ?_)
  refine op_build_to 127 _ rfl _ rfl (drwA H (c + 1)) (by kernel_rfl) ?_
  refine hK.out _ _ (.inr hS6) ?_
  clear hK
  try simp only [Act.put, List.setIfInBounds_toArray]
  refine anyE_one (i := 6) rfl (by kernel_rfl) rfl (fun K hK => ?_)
  refine op_store_row 127 _ _ rfl rfl o2 (drwA H (c + 1)) rfl rfl 127 (drwA zeroH 0) hZ6 (sizeTr _ _) (by rw [drwA_size, drwA_size]) (drwA_one _ _) ?_
  have hS7 : Blk (w6.setRow o2 (drwA H (c + 1))) o 127 cs := Blk.rowApart hS6 (by have := HO1.out; have := HO2.out; omega) _
  refine hK.out _ _ (.inr hS7) ?_
  clear hK
  refine anyE_one (i := 7) rfl (by kernel_rfl) rfl (fun K hK => ?_)
  go_simp
  refine hK.out _ _ (.inl rfl) (anyE_done (by kernel_rfl) ?_ _)
  clear hK
  go_wp2
  refine bodyPost_ret (v := .tuple #[.agg (drwA H (c + 1)), .int .i64 0]) (results_row_tmp Tryz.results183 _ _ o2 127 _ (0, 0) _ (by rfl) (hZ6.row _) Tryz.underlying127 rfl (sizeTr _ _)) rfl ⟨rfl, hD6.setRow (by have := HO.out; have := HO1.out; have := HO2.out; omega) _⟩
end Go.Proofs.YtoaomjdpiealfaaGreatDoor
namespace Go.Proofs.YtoaomjdpiealfaaGreatDoor
open Go.RowKit Go.Sp
set_option maxHeartbeats 4000000
set_option maxRecDepth 20000

theorem r8Challenge_ok (h : Nat → Int) (c : Int) (s : ByteArray) (q : Int) (w : World) (hB : Byt h) (c0 : 0 ≤ c) (c1 : c < 1000) (hs : Lab s) (q0 : 2 ≤ q) (q1 : q < 2305843009213693952) :
    Calls Tryz.prog 184 #[drw h c, .string s, .int .i64 q] w fun e w' => (∃ T, e = .returned (.tuple #[.agg T, .int .i64 (chalN h (txt s) q), .int .i64 0]) ∧ T.size = 33 ∧ T.all (·.oneCell') = true) ∧ Up w w' := by
  have HVc : Hid (chalN h (txt s) q = numH (tagB (txt chTag) (frameE h (txt s) [])) q) := hid (by rw [chTag_txt]; rfl)
  have hFl : (frameE h (txt s) []).length ≤ 16384 := by rw [frameE_length, txt_length]; have := hs.max; simp; omega
  have hFb : ∀ x ∈ frameE h (txt s) [], 0 ≤ x ∧ x ≤ 255 := frameE_byt hB (txt_byt s) (fun e he => by simp at he)
  have M1 := hid (fun w' => r8Valid_ok h c w' c0 (by omega))
  have M2 := hid (fun w' => rlabel_ok s w' hs)
  have M3 := hid (fun w' => r8frame_none h c s w' hB hs)
  have M3b := hid (fun w' (l' : Value) (hi : ItmAt w' 7 3 0 nilS l' (frameE h (txt s) [])) => renc_ok 7 3 0 nilS l' _ w' hi (by omega))
  have M3c := hid (fun w' (v' : Value) (hv' : SeqAt .u8 w' v' (frameE h (txt s) [])) => rTagged_any chTag v' _ w' (by decide) hv' (by omega) hFb)
  have HHb := hid (tagB_range (txt chTag) (frameE h (txt s) []))
  generalize tagB (txt chTag) (frameE h (txt s) []) = R at *
  generalize frameE h (txt s) [] = F at *
  have M4 := hid (fun w' => rNumber_ok R q w' HHb.out (by omega) q1)
  rw [← HVc.out] at M4
  generalize chalN h (txt s) q = C at *
  have M5 := hid (fun w' => r8Absorb_ok h c s 1 C nilS nilS (encInt C) w' hB c0 c1 hs (itm_int w' C 6) (by rw [encInt_length]; omega) (encInt_byt C))
  generalize absB h (txt s) (encInt C) = H at *
  have hctr := drwA_ctr h c
  have HCt := hid hctr
  have HSz := hid (sizeTr h c)
  unfold drw at M1 M3 M5 ⊢
  generalize drwA h c = cs at *
  have dc : (c == 1000) = false := by simp; omega
  have dq : decide (q < 2) = false := by simp; omega
  have dq2 : decide (q ≥ 2305843009213693952) = false := by simp; omega
  clear hB hs hctr q0 q1 c0 c1 hFl hFb
  obtain ⟨o, ho⟩ : ∃ o, w.heap.size = o := ⟨_, rfl⟩
  have HO := hid ho
  obtain ⟨o1, ho1⟩ : ∃ o1, o + 1 = o1 := ⟨_, rfl⟩
  have HO1 := hid ho1
  clear ho ho1
  go_enter Tryz.func184, Tryz.ntmps184
  have hB0 := Blk.new (w := w) (t := 127) (cs := cs) (g := w.heap.size) rfl rfl
  go_wp2_with (refine wpList_load_row rfl 127 _ rfl w.heap.size rfl 127 cs (0, 0) _ (hB0.alloc _) Tryz.underlying127 rfl HSz.out ?_)
  refine (M1.out _).mono ?_
  rintro e w1 ⟨rfl, hU1⟩
  have HS1 := hid (((Blk.new (w := w) (t := 127) (cs := cs) (g := o) HO.out rfl).up ((Up.refl _).alloc _)).up hU1)
  have HZ1 : Hid (Blk w1 o1 127 (drwA zeroH 0)) := hid ((Blk.new (g := o1) (t := 127) (by have := HO.out; have := HO1.out; simp; omega) zero33).up hU1)
  have HU1 := hid ((((Up.refl w).alloc _).alloc _).trans hU1)
  rw [HO.out, HO1.out]
  clear hU1 hB0
  go_wp2_with fail
  refine (M2.out _).mono ?_
  rintro e w2 ⟨rfl, hU2⟩
  have HS2 := hid (HS1.out.up hU2)
  have HZ2 := hid (HZ1.out.up hU2)
  have HU2 := hid (HU1.out.trans hU2)
  clear hU2 HS1 HZ1 HU1
  have q32 : w2.cell? ⟨o, 32, none⟩ = some (.int .i64 c) := HS2.out.val HCt.out
  go_wp2_with (refine wpList_load_row rfl 127 _ rfl o rfl 127 cs (0, 0) _ HS2.out Tryz.underlying127 rfl HSz.out ?_)
  refine (M3.out _).mono ?_
  rintro e wa ⟨la, rfl, hIa, hUa⟩
  have HSa := hid (HS2.out.up hUa)
  have HZa := hid (HZ2.out.up hUa)
  have HUa := hid (HU2.out.trans hUa)
  have HFa := hid hIa
  obtain ⟨_, l3a, l3n, l3c, rfl⟩ := itm_shape hIa
  clear hUa hIa HS2 HZ2 HU2 q32
  go_wp2_with fail
  refine (M3b.out _ _ HFa.out).mono ?_
  rintro e wb ⟨vb, rfl, hOb, hUb⟩
  have HXb := hid hOb.seq
  obtain ⟨ab, cb, rfl, _, _⟩ := hOb.shape
  have HSb := hid (HSa.out.up hUb)
  have HZb := hid (HZa.out.up hUb)
  have HUb := hid (HUa.out.trans hUb)
  clear hUb hOb HSa HZa HUa HFa
  go_wp2_with fail
  refine (M3c.out _ _ HXb.out).mono ?_
  rintro e w3 ⟨rfl, hU3⟩
  have HS3 := hid (HSb.out.up hU3)
  have HZ3 := hid (HZb.out.up hU3)
  have HU3 := hid (HUb.out.trans hU3)
  clear hU3 HSb HZb HUb HXb
  unfold hashV at M4 ⊢
  go_wp2_with fail
  refine (M4.out _).mono ?_
  rintro e w4 ⟨rfl, hU4⟩
  have HS4 := hid (HS3.out.up hU4)
  have HZ4 := hid (HZ3.out.up hU4)
  have HU4 := hid (HU3.out.trans hU4)
  clear hU4 HS3 HZ3 HU3
  go_wp2_with (refine wpList_load_row rfl 127 _ rfl o rfl 127 cs (0, 0) _ HS4.out Tryz.underlying127 rfl HSz.out ?_)
  refine (M5.out _).mono ?_
  rintro e w5 ⟨rfl, hU5⟩
  have HZ5 := hid (HZ4.out.up hU5)
  have HU5 := hid (HU4.out.trans hU5)
  clear hU5 HS4 HZ4 HU4
  have l1 := HZ5.out.lt
  go_wp2_with (first
    | (refine wpList_store_rowTo rfl 127 _ _ rfl rfl o1 (drwA H (c + 1)) rfl rfl 127 (drwA zeroH 0) (HZ5.out.alloc _) (sizeTr _ _) (by rw [drwA_size, drwA_size]) (drwA_one _ _) ?_)
    | (refine wpList_store_rowTo rfl 127 _ _ rfl rfl _ _ rfl rfl 127 _ (heap_alloc_new _ _) (sizeTr _ _) (by rw [drwA_size]; rfl) (drwA_one _ _) ?_; rw [World.setRow_alloc_new])
    | (refine wpList_load_row rfl 127 _ rfl w5.heap.size rfl 127 (drwA H (c + 1)) (0, 0) _ (Blk.new rfl rfl) Tryz.underlying127 rfl (sizeTr _ _) ?_))
  refine bodyPost_ret (v := .tuple #[.agg (drwA H (c + 1)), .int .i64 C, .int .i64 0]) (results_row_tmp2 Tryz.results184 _ _ o1 127 _ (0, 0) _ (by rfl) ((HZ5.out.alloc _).row _) Tryz.underlying127 rfl (sizeTr _ _)) rfl ⟨⟨drwA H (c + 1), rfl, drwA_size _ _, drwA_one _ _⟩, (HU5.out.alloc _).setRow (by have := HO.out; have := HO1.out; omega) _⟩
end Go.Proofs.YtoaomjdpiealfaaGreatDoor
