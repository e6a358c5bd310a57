/- Package encode: lists that are written; Encode. The reference's encoding: integers, bytes and lists. -/
import Derived.Test.YtdlcmpbpdbpanaaDoorMRestrictChallenges29
import Derived.Test.YtdlcmpbpdbpanaaDoorMRestrictChallenges28
namespace Go.Proofs.YtdlcmpbpdbpanaaDoor
open Go.RowKit Go.Sp
set_option maxHeartbeats 2000000
set_option maxRecDepth 20000

theorem leaf_shape {w : World} {k n : Int} {b l : Value} {es : List Int} (h : Leaf w k n b l es) : (∃ a m c, b = .slice a m c) ∧ ∃ a m c, l = .slice a m c := by
  rcases h with ⟨_, rfl, rfl, _⟩ | ⟨_, _, rfl, xs, h, _⟩
  · exact ⟨⟨_, _, _, rfl⟩, _, _, _, rfl⟩
  · obtain ⟨a, cap, rfl, _⟩ := h
    exact ⟨⟨_, _, _, rfl⟩, _, _, _, rfl⟩
theorem itm_shape {w : World} : ∀ {d : Nat} {k n : Int} {b l : Value} {es : List Int}, ItmAt w d k n b l es → (∃ a m c, b = .slice a m c) ∧ ∃ a m c, l = .slice a m c
  | 0, _, _, _, _, _, h => leaf_shape h
  | _ + 1, _, _, _, _, _, .inl h => leaf_shape h
  | _ + 1, _, _, _, _, _, .inr ⟨_, _, h, ess, _, h5, _⟩ => by
    obtain ⟨a, cap, rfl, _⟩ := h5
    subst h
    exact ⟨⟨_, _, _, rfl⟩, _, _, _, rfl⟩

theorem write_list (l : Value) (ess : List (List Int)) (R : Int → Int → Value → Value → List Int → Prop) (v : Value) (xs : List Int) (base : Nat) (w : World) (h : OwnS 5 .u8 w base v xs) (hb : base ≤ w.heap.size) (hx : xs.length ≤ 16384) (w0 : World) (hU0 : Up w0 w) (h0 : w0.heap.size ≤ base) (hr : ItmRow R w0 l ess) (hl : ess.length ≤ 1000)
    (hsh : ∀ k n b l es, R k n b l es → (∃ a m c, b = .slice a m c) ∧ ∃ a m c, l = .slice a m c)
    (hf : ∀ k n b l es, R k n b l es → ∀ v xs w, OwnS 5 .u8 w base v xs → base ≤ w.heap.size → Up w0 w → Calls Tryd.prog 120 #[v, itm k n b l] w (WriteOut base xs es w)) :
    Calls Tryd.prog 120 #[v, itm 3 0 nilS l] w (WriteOut base xs (encList ess) w) := by
  have HO := hid h
  have HU0 := hid hU0
  have HF := hid hf
  have HSh := hid hsh
  obtain ⟨p, c, rfl, _, _⟩ := h.shape
  obtain ⟨a, cap, rfl, hc1, hc2, _, hi⟩ := hr
  obtain ⟨m, hm⟩ : ∃ m, xs.length = m := ⟨_, rfl⟩
  have HM := hid hm
  obtain ⟨q, hq⟩ : ∃ q, ess.length = q := ⟨_, rfl⟩
  have HQ := hid hq
  rw [hm] at HO hx
  rw [hq] at hl hc1 hi
  rw [hm, hq]
  have HI := hid hi
  have d0 : decide ((m : Int) > 16384) = false := by simp; omega
  have HE : Hid (encList ess = 3 :: (beL 4 q ++ ess.flatten)) := hid (by rw [encList, hq])
  have HNum := hid (fun v' xs' w' (h : OwnS 5 .u8 w' base v' xs') hb' hl' => encNumber_any q 4 base v' xs' w' h hb' (by omega) (by omega) (by omega) hl')
  have hwr : IntKind.u64.wrap (q : Int) = (q : Int) := by rw [IntKind.wrap_u64]; omega
  clear h hm hq hU0 hi hf hsh
  go_enter Tryd.func120, Tryd.ntmps120
  go_wp2_with (at_builtin; refine wp_app infoU8 Tryd.underlying31 (by omega) rfl _ _ rfl base rfl rfl (HO.out.up (((Up.refl w).alloc _).alloc _)) (seq_new_at (by simp)) (by have := HM.out; simp; omega) (by simp; omega) ?_; intro v1 w1 hO1 hg1; have hX0 : Blk ((w.alloc (.cells #[.int .i64 3, .int .i64 0, nilS, .slice a q cap] 87)).alloc (.cells #[.int .u8 3] 5)) w.heap.size 87 #[.int .i64 3, .int .i64 0, nilS, .slice a q cap] := (Blk.new rfl rfl).alloc _; have HX1 := hid (hX0.grown hg1 ((HO.out.up (((Up.refl w).alloc _).alloc _)).apart hX0 (by decide))); have HB1 := hid (below_trans (below_of_up (((Up.refl w).alloc (.cells #[.int .i64 3, .int .i64 0, nilS, .slice a q cap] 87)).alloc (.cells #[.int .u8 3] 5)) hb) (below_own (HO.out.up (((Up.refl w).alloc _).alloc _)) hg1 (by simp; omega))); have q0 := HX1.out.val (i := 0) rfl; have q1 := HX1.out.val (i := 3) rfl; have lx := HX1.out.lt; have HO1 := hid hO1; have hbw : base ≤ w1.heap.size := (by omega); clear hX0 hO1 hg1)
  refine (HNum.out _ _ _ HO1.out hbw (by simp; have := HM.out; omega)).mono ?_
  rintro e w2 ⟨v2, rfl, hO2, hg2⟩
  have HB2 := hid (below_trans HB1.out (below_own HO1.out hg2 hbw))
  have HX2 := hid (HX1.out.grown hg2 (HO1.out.apart HX1.out (by decide)))
  have HO2 := hid hO2
  have hbw2 : base ≤ w2.heap.size := by have := hg2.size; omega
  have HW2 : Hid (Wrote xs (3 :: (beL 4 q ++ (ess.take 0).flatten)) (xs ++ [3] ++ beL 4 q)) := hid (by
    have := Wrote.all xs (3 :: (beL 4 q ++ (ess.take 0).flatten))
    simpa using this)
  clear q0 q1 lx hO2 hg2 HO1 HX1 HB1
  have q1 := HX2.out.val (i := 3) rfl
  go_wp2_with fail
  clear q1 HX2
  go_loopw [0, 46] (fun vp vi wr => ∃ (i : Nat) (ys : List Int), i ≤ q ∧ vi = .int .i64 i ∧ Hid (OwnS 5 .u8 wr base vp ys) ∧ Hid (Wrote xs (3 :: (beL 4 q ++ (ess.take i).flatten)) ys) ∧ Hid (Below base w wr) ∧ base ≤ wr.heap.size) (fun _ vi _ => q - (intOf vi).toNat)
  case atStart => exact ⟨0, _, by omega, rfl, HO2, HW2, HB2, hbw2⟩
  case round =>
    clear HO2 HW2 HB2 hbw2
    obtain ⟨i, ys, hiq, rfl, HOr, HWr, HBr, hbr⟩ := hrel
    by_cases hlt : i < q
    · obtain ⟨b, off, k, n, vb, vl, rfl, hc, hr⟩ := HI.out i hlt
      have HUr := hid (up_below HU0.out HBr.out h0)
      obtain ⟨c0, c1, c2, c3⟩ := hc.up HUr.out
      obtain ⟨⟨ba, bn, bc, rfl⟩, la, ln, lc, rfl⟩ := HSh.out _ _ _ _ _ hr
      have HC := hid (fun v xs w' h1 h2 h3 => HF.out k n _ _ _ hr v xs w' h1 h2 h3)
      have HWn : Hid (∀ zs, Wrote ys (ess.getD i []) zs → Wrote xs (3 :: (beL 4 q ++ (ess.take (i + 1)).flatten)) zs) := hid (fun zs hz => by
        have := HWr.out.next hz
        rw [flatten_take (by rw [HQ.out]; exact hlt), ← List.append_assoc]
        simpa using this)
      generalize ess.getD i [] = es at *
      clear hc hr
      go_wp2_with fail
      refine (HC.out _ ys _ (HOr.out.up ((Up.refl wr).alloc _)) (by simp; omega) (HUr.out.alloc _)).mono ?_
      rintro e w3 ⟨v3, zs, rfl, hO3, hB3, hW3⟩
      have HO3 := hid hO3
      have HW3 := hid (HWn.out zs hW3)
      have HB3 := hid (below_trans HBr.out (below_trans (below_of_up ((Up.refl wr).alloc (.cells #[.int .i64 k, .int .i64 n, .slice ba bn bc, .slice la ln lc] 87)) hbr) hB3))
      have hb3 : base ≤ w3.heap.size := by have := hB3.size; simp at this; omega
      clear hO3 hW3 hB3 c0 c1 c2 c3
      go_wp2_with fail
      go_roundw
      case rel => exact ⟨i + 1, zs, by omega, by go_num, HO3, HW3, HB3, hb3⟩
      case measure => simp [intOf]; omega
    · have hlt2 : decide (i < q) = false := by simpa using hlt
      have HE2 : Hid (Wrote xs (encList ess) ys) := hid (by
        rw [HE.out]
        have := HWr.out
        rw [List.take_of_length_le (by rw [HQ.out]; omega)] at this
        exact this)
      go_wp2
      go_ret
      exact ⟨_, ys, rfl, HOr.out, HBr.out, HE2.out⟩

theorem write_ok (w0 : World) (base : Nat) (h0 : w0.heap.size ≤ base) : ∀ (d : Nat) (k n : Int) (b l : Value) (es : List Int), ItmAt w0 d k n b l es → ∀ v xs w, OwnS 5 .u8 w base v xs → base ≤ w.heap.size → Up w0 w →
    Calls Tryd.prog 120 #[v, itm k n b l] w (WriteOut base xs es w) := by
  intro d
  induction d with
  | zero =>
    intro k n b l es h v xs w hO hb hU
    by_cases hx : xs.length ≤ 16384
    · rcases h with ⟨rfl, rfl, rfl, rfl⟩ | ⟨rfl, rfl, rfl, bs, h1, h2, _, rfl⟩
      · exact write_int n v xs base w hO hb hx
      · exact write_bytes b bs v xs base w hO hb hx w0 hU h0 h1 h2
    · exact write_full k n b l es v xs base w hO hb (by omega)
  | succ d ih =>
    intro k n b l es h v xs w hO hb hU
    by_cases hx : xs.length ≤ 16384
    · rcases h with h | ⟨rfl, rfl, rfl, ess, hl, hr, rfl⟩
      · rcases h with ⟨rfl, rfl, rfl, rfl⟩ | ⟨rfl, rfl, rfl, bs, h1, h2, _, rfl⟩
        · exact write_int n v xs base w hO hb hx
        · exact write_bytes b bs v xs base w hO hb hx w0 hU h0 h1 h2
      · exact write_list l ess _ v xs base w hO hb hx w0 hU h0 hr hl (fun _ _ _ _ _ h => itm_shape h) ih
    · exact write_full k n b l es v xs base w hO hb (by omega)

/-- What Encode returns. -/
def EncOut (es : List Int) (w : World) (e : Ending) (w' : World) : Prop :=
  ∃ v, e = .returned (.tuple #[v, .int .i64 (if es.length ≤ 16384 then 0 else 5)]) ∧ OwnS 5 .u8 w' w.heap.size v (if es.length ≤ 16384 then es else []) ∧ Up w w'

theorem EncOut.ok {es : List Int} {w w' : World} {v : Value} (hl : es.length ≤ 16384) (hO : OwnS 5 .u8 w' w.heap.size v es) (hU : Up w w') : EncOut es w (.returned (.tuple #[v, .int .i64 0])) w' := ⟨v, by rw [if_pos hl], by rw [if_pos hl]; exact hO, hU⟩
theorem EncOut.no {es : List Int} {w w' : World} (hl : ¬ es.length ≤ 16384) (hU : Up w w') : EncOut es w (.returned (.tuple #[nilS, .int .i64 5])) w' := ⟨_, by rw [if_neg hl], by rw [if_neg hl]; exact own_none, hU⟩

theorem Encode_ok {d : Nat} {k n : Int} {b l : Value} {es : List Int} {w : World} (h : ItmAt w d k n b l es) (hd : d ≤ 8) :
    Calls Tryd.prog 60 #[itm k n b l] w (EncOut es w) := by
  have H := hid h
  obtain ⟨⟨ba, bn, bc, rfl⟩, la, ln, lc, rfl⟩ := itm_shape h
  clear h
  go_enter Tryd.func60, Tryd.ntmps60
  go_wp2_with fail
  refine (encValid_ok (H.out.up ((Up.refl w).alloc _)) hd).mono ?_
  rintro e w1 ⟨rfl, hU1⟩
  have hX1 : Blk w1 w.heap.size 87 #[.int .i64 k, .int .i64 n, .slice ba bn bc, .slice la ln lc] := (Blk.new rfl rfl).up hU1
  have q0 := hX1.val (i := 0) rfl
  have q1 := hX1.val (i := 1) rfl
  have q2 := hX1.val (i := 2) rfl
  have q3 := hX1.val (i := 3) rfl
  have HU1 := hid (((Up.refl w).alloc _).trans hU1)
  have hs1 : w.heap.size ≤ w1.heap.size := HU1.out.size
  clear hX1 hU1
  go_wp2_with fail
  refine (write_ok w w.heap.size (Nat.le_refl _) d k n _ _ es H.out nilS [] w1 own_none hs1 HU1.out).mono ?_
  rintro e w2 ⟨v2, ys, rfl, hO2, hB2, hW2⟩
  have HU2 : Hid (Up w w2) := hid (up_below HU1.out hB2 (Nat.le_refl _))
  obtain ⟨p2, c2, rfl, _, _⟩ := hO2.shape
  have HO2 := hid hO2
  obtain ⟨r1, r2, r3⟩ := hW2
  simp only [List.length_nil, Nat.zero_add, List.nil_append] at r1 r2 r3
  by_cases hl : es.length ≤ 16384
  · have hys := r1 hl
    subst hys
    have d1 : decide ((ys.length : Int) > 16384) = false := by simp; omega
    have HL := hid hl
    clear hl r1 r2 r3 hO2 hB2
    go_wp2
    go_ret2
    exact EncOut.ok HL.out HO2.out HU2.out
  · have hys := r2 (by omega)
    have d1 : decide ((ys.length : Int) > 16384) = true := by simp; omega
    have HL := hid hl
    clear hl r1 r2 r3 hO2 hB2 hys
    go_wp2
    go_ret2
    exact EncOut.no HL.out HU2.out

theorem Encode_short {d : Nat} {k n : Int} {b l : Value} {es : List Int} {w : World} (h : ItmAt w d k n b l es) (hd : d ≤ 8) (hl : es.length ≤ 16384) :
    Calls Tryd.prog 60 #[itm k n b l] w fun e w' => ∃ v, e = .returned (.tuple #[v, .int .i64 0]) ∧ OwnS 5 .u8 w' w.heap.size v es ∧ Up w w' :=
  (Encode_ok h hd).mono fun e w' ⟨v, h1, h2, h3⟩ => ⟨v, by rw [h1, if_pos hl], by rw [if_pos hl] at h2; exact h2, h3⟩
end Go.Proofs.YtdlcmpbpdbpanaaDoor
namespace Go.Proofs.YtdlcmpbpdbpanaaDoor
open Go.RowKit Go.Sp
set_option maxHeartbeats 4000000
set_option maxRecDepth 20000

theorem own_one {w : World} {base g : Nat} (x : Int) (hg : w.heap.size = g) (hb : base ≤ g) : OwnS 5 .u8 (w.alloc (.cells #[.int .u8 x] 5)) base (.slice (some ⟨g, 0, none⟩) 1 1) [x] := by
  have h : Blk (w.alloc (.cells #[.int .u8 x] 5)) g 5 (arrK .u8 (fun _ => x) 1) := Blk.new hg (by kernel_rfl)
  exact h.own hb (by omega)

/-- What the reference's Encode returns. -/
def REnc (es : List Int) (w : World) (e : Ending) (w' : World) : Prop := ∃ v, e = .returned v ∧ OwnS 5 .u8 w' w.heap.size v es ∧ Up w w'

theorem renc_int (n : Int) (w : World) : Calls Tryd.prog 85 #[itm 1 n nilS nilS] w (REnc (encInt n) w) := by
  have hr : 0 ≤ IntKind.u64.wrap n ∧ IntKind.u64.wrap n < 18446744073709551616 := by rw [IntKind.wrap_u64]; omega
  have HNum := hid (fun w' => renc_eight (IntKind.u64.wrap n) w' hr.1 (by omega))
  have HE : Hid (encInt n = 1 :: beL 8 (IntKind.u64.wrap n)) := hid rfl
  clear hr
  go_enter Tryd.func85, Tryd.ntmps85
  go_wp2_with fail
  generalize IntKind.u64.wrap n = N at *
  refine (HNum.out _).mono ?_
  rintro e w2 ⟨v2, rfl, hO2, hU2⟩
  have hO1 := (own_one (w := w.alloc (.cells #[.int .i64 1, .int .i64 n, nilS, nilS] 87)) (g := w.heap.size + 1) (base := w.heap.size) 1 (by simp) (by omega)).up hU2
  have hU2 := (((Up.refl w).alloc _).alloc _).trans hU2
  go_wp2_with (at_builtin; refine wp_app infoU8 Tryd.underlying31 (by omega) rfl _ _ rfl w.heap.size rfl rfl hO1 hO2.seq (by simp [beL_length]) hU2.size ?_; intro v3 w3 hO3 hg3; have hU3 := hU2.own hO1 hg3 (Nat.le_refl _))
  go_ret
  exact ⟨_, rfl, by rw [HE.out]; exact hO3, hU3⟩

theorem renc_list (l : Value) (ess : List (List Int)) (R : Int → Int → Value → Value → List Int → Prop) (w : World) (hr : ItmRow R w l ess) (hl : ess.length ≤ 1000) (ht : ess.flatten.length ≤ 1000000000)
    (hsh : ∀ k n b l es, R k n b l es → (∃ a m c, b = .slice a m c) ∧ ∃ a m c, l = .slice a m c)
    (hf : ∀ k n b l es, R k n b l es → es.length ≤ 1000000000 → ∀ w', Up w w' → Calls Tryd.prog 85 #[itm k n b l] w' (REnc es w')) :
    Calls Tryd.prog 85 #[itm 3 0 nilS l] w (REnc (encList ess) w) := by
  have HF := hid hf
  have HSh := hid hsh
  obtain ⟨a, cap, rfl, hc1, hc2, _, hi⟩ := hr
  obtain ⟨q, hq⟩ : ∃ q, ess.length = q := ⟨_, rfl⟩
  have HQ := hid hq
  have HT := hid ht
  rw [hq] at hl hc1 hi
  rw [hq]
  have HI := hid hi
  have HE : Hid (encList ess = 3 :: (beL 4 q ++ ess.flatten)) := hid (by rw [encList, hq])
  have hwr : IntKind.u64.wrap (q : Int) = (q : Int) := by rw [IntKind.wrap_u64]; omega
  have HNum := hid (fun w' => renc_four q w' (by omega) (by omega))
  clear hq hi hf hsh ht
  go_enter Tryd.func85, Tryd.ntmps85
  go_wp2_with fail
  refine (HNum.out _).mono ?_
  rintro e w2 ⟨v2, rfl, hO2, hU2⟩
  have hX2 : Blk w2 w.heap.size 87 #[.int .i64 3, .int .i64 0, nilS, .slice a q cap] := ((Blk.new rfl rfl).alloc _).up hU2
  have hO1 := (own_one (w := w.alloc (.cells #[.int .i64 3, .int .i64 0, nilS, .slice a q cap] 87)) (g := w.heap.size + 1) (base := w.heap.size + 1) 3 (by simp) (by omega)).up hU2
  have hU2 := (((Up.refl w).alloc _).alloc _).trans hU2
  have l2 := hX2.lt
  go_wp2_with (at_builtin; refine wp_app infoU8 Tryd.underlying31 (by omega) rfl _ _ rfl (w.heap.size + 1) rfl rfl hO1 hO2.seq (by simp [beL_length]) (by omega) ?_; intro v3 w3 hO3 hg3; have hU3 := hU2.own hO1 hg3 (by omega); have hX3 := hX2.below (below_own hO1 hg3 (by omega)) (by omega))
  obtain ⟨g, hg⟩ : ∃ g, w.heap.size = g := ⟨_, rfl⟩
  have HG := hid hg
  have HO3 : Hid (OwnS 5 .u8 w3 (g + 1) v3 (3 :: (beL 4 q ++ (ess.take 0).flatten))) := hid (by rw [← hg]; simpa using hO3)
  rw [hg] at hX3
  rw [hg]
  have HX3 := hid hX3
  have HU3 := hid hU3
  clear hO3 hX3 hU3 hg hg3 hO1 hO2 hX2 hU2 l2
  go_loopw [3, 4] (fun vp vi wr => ∃ i : Nat, i ≤ q ∧ vi = .int .i64 i ∧ Hid (OwnS 5 .u8 wr (g + 1) vp (3 :: (beL 4 q ++ (ess.take i).flatten))) ∧ Hid (Blk wr g 87 #[.int .i64 3, .int .i64 0, nilS, .slice a q cap]) ∧ Hid (Up w wr)) (fun _ vi _ => q - (intOf vi).toNat)
  case atStart => exact ⟨0, by omega, rfl, HO3, HX3, HU3⟩
  case round =>
    clear HO3 HX3 HU3
    obtain ⟨i, hiq, rfl, HO, HX, HU⟩ := hrel
    have q1 := HX.out.val (i := 3) rfl
    by_cases hlt : i < q
    · obtain ⟨b, off, k, n, vb, vl, rfl, hc, hr⟩ := HI.out i hlt
      obtain ⟨c0, c1, c2, c3⟩ := hc.up HU.out
      obtain ⟨⟨ba, bn, bc, rfl⟩, la, ln, lc, rfl⟩ := HSh.out _ _ _ _ _ hr
      have hle := flatten_at_le (ess := ess) (i := i) (by rw [HQ.out]; exact hlt)
      have HC := hid (fun w' hU => HF.out k n _ _ _ hr (by have := HT.out; omega) w' hU)
      have HN : Hid (3 :: (beL 4 q ++ (ess.take (i + 1)).flatten) = 3 :: (beL 4 q ++ (ess.take i).flatten) ++ ess.getD i []) := hid (by rw [flatten_take (by rw [HQ.out]; exact hlt)]; simp)
      have HLe : Hid ((3 :: (beL 4 q ++ (ess.take i).flatten)).length + (ess.getD i []).length ≤ 17592186044416) := hid (by have := HT.out; simp [beL_length] at *; omega)
      have hz := HX.out.lt
      generalize ess.getD i [] = es at *
      generalize 3 :: (beL 4 q ++ (ess.take i).flatten) = ys at *
      have z1 : (i : Int) < q := by omega
      have z2 : i * 4 + 4 ≤ cap * 4 := by omega
      clear hc hr hle
      go_wp2_with fail
      refine (HC.out _ HU.out).mono ?_
      rintro e w4 ⟨v4, rfl, hO4, hU4⟩
      have hw4 : g + 1 ≤ w4.heap.size := by have := hU4.size; omega
      go_wp2_with (at_builtin; refine wp_app infoU8 Tryd.underlying31 (by omega) rfl _ _ rfl (g + 1) rfl rfl (HO.out.up hU4) hO4.seq HLe.out hw4 ?_; intro v5 w5 hO5 hg5)
      have HU5 := hid ((HU.out.trans hU4).own (HO.out.up hU4) hg5 (by have := HG.out; omega))
      have HX5 := hid ((HX.out.up hU4).below (below_own (HO.out.up hU4) hg5 hw4) (by omega))
      rw [← HN.out] at hO5
      have HO5 := hid hO5
      clear hO5 hg5 hO4 hU4 c0 c1 c2 c3
      go_roundw
      case rel => exact ⟨i + 1, by omega, by go_num, HO5, HX5, HU5⟩
      case measure => simp [intOf]; omega
    · have HE2 : Hid (OwnS 5 .u8 wr (g + 1) u3 (encList ess)) := hid (by
        rw [HE.out]
        have := HO.out
        rw [List.take_of_length_le (by rw [HQ.out]; omega)] at this
        exact this)
      have z1 : decide ((i : Int) < q) = false := by simpa using hlt
      go_wp2
      go_ret
      exact ⟨_, rfl, by rw [HG.out]; exact HE2.out.mono (by omega), HU.out⟩

theorem renc_bytes (b : Value) (bs : List Int) (w : World) (hs : SeqAt .u8 w b bs) (hl : bs.length ≤ 1000000) :
    Calls Tryd.prog 85 #[itm 2 0 b nilS] w (REnc (encBytes bs) w) := by
  have HS := hid hs
  obtain ⟨pb, cb, rfl, _, _⟩ := hs.shape
  obtain ⟨nb, hnb⟩ : ∃ nb, bs.length = nb := ⟨_, rfl⟩
  have HNb := hid hnb
  rw [hnb] at HS hl
  rw [hnb]
  have HE : Hid (encBytes bs = [2] ++ beL 4 nb ++ bs) := hid (by rw [encBytes, hnb]; simp)
  have HNum := hid (fun w' => renc_four nb w' (by omega) (by omega))
  have hwr : IntKind.u64.wrap (nb : Int) = (nb : Int) := by rw [IntKind.wrap_u64]; omega
  clear hs hnb
  go_enter Tryd.func85, Tryd.ntmps85
  go_wp2_with fail
  obtain ⟨g, hg⟩ : ∃ g, w.heap.size = g := ⟨_, rfl⟩
  have HG := hid hg
  obtain ⟨w1, hw1⟩ : ∃ w1, w.alloc (.cells #[.int .i64 2, .int .i64 0, .slice pb nb cb, nilS] 87) = w1 := ⟨_, rfl⟩
  have HX : Hid (Blk w1 g 87 #[.int .i64 2, .int .i64 0, .slice pb nb cb, nilS]) := hid (by rw [← hw1]; exact Blk.new hg rfl)
  have HU1 : Hid (Up w w1) := hid (by rw [← hw1]; exact (Up.refl w).alloc _)
  rw [hg]
  rw [hw1]
  clear hw1 hg
  have hS0 : w1.cell? ⟨g, 2, none⟩ = some (.slice pb nb cb) := HX.out.val (i := 2) rfl
  have hsz := HX.out.lt
  have HL1 : Hid (([2] : List Int).length + (beL 4 nb).length ≤ 17592186044416) := hid (by rw [beL_length]; decide)
  have HL2 : Hid ((([2] : List Int) ++ beL 4 nb).length + bs.length ≤ 17592186044416) := hid (by rw [List.length_append, beL_length, HNb.out]; show 1 + 4 + nb ≤ _; omega)
  go_region_held3 (fun w' => w'.cell? ⟨g, 2, none⟩ = some (.slice pb nb cb)) (first | assumption | exact cup hU4 (HX.out.val (i := 2) rfl) | exact cup hU3 (HX.out.val (i := 2) rfl) | exact cup (hD2.alloc _) (HX.out.val (i := 2) rfl) | exact cup hD2 (HX.out.val (i := 2) rfl) | exact cup (Up.refl _).drew (by assumption) | exact cup ((Up.refl _).alloc _) (by assumption) | exact cup ((Up.refl w1).alloc _).drew (HX.out.val (i := 2) rfl) | fail "keep") (first
    | (go_at_call 135; refine (HNum.out _).mono ?_; rintro e w2 ⟨v2, rfl, hO2, hU2⟩; have hD2 := Up.trans (by first | exact ((Up.refl w1).alloc (.cells #[.int .u8 2] 5)).drew | exact (Up.refl w1).drew.alloc (.cells #[.int .u8 2] 5) | exact (Up.refl w1).alloc (.cells #[.int .u8 2] 5) | exact (Up.refl w1).drew | exact Up.refl w1 : Up w1 _) hU2; have hz2 := hD2.size)
    | (refine step_app infoU8 Tryd.underlying31 (by omega) (by rfl) _ _ (by rfl) w1.heap.size (by rfl) (by rfl) ((own_one (w := w1) (base := w1.heap.size) 2 rfl (Nat.le_refl _)).up ((Up.refl _).drew.trans hU2)) hO2.seq HL1.out hz2 ?_; intro v3 w3 hO3 hg3; have hU3 := hD2.own ((own_one (w := w1) (base := w1.heap.size) 2 rfl (Nat.le_refl _)).up ((Up.refl _).drew.trans hU2)) hg3 (Nat.le_refl _); have hz3 := hU3.size)
    | (refine step_app infoU8 Tryd.underlying31 (by omega) (by rfl) _ _ (by rfl) w1.heap.size (by rfl) (by rfl) (own_one (w := w2) (base := w1.heap.size) 2 rfl hz2) (hO2.seq.up ((Up.refl w2).alloc _)) HL1.out (hD2.alloc _).size ?_; intro v3 w3 hO3 hg3; have hU3 := (hD2.alloc (.cells #[.int .u8 2] 5)).own (own_one (w := w2) (base := w1.heap.size) 2 rfl hz2) hg3 (Nat.le_refl _); have hz3 := hU3.size)
    | (refine step_app infoU8 Tryd.underlying31 (by omega) (by rfl) _ _ (by rfl) w1.heap.size (by rfl) (by rfl) hO3 (HS.out.up (HU1.out.trans hU3)) HL2.out hz3 ?_; intro v4 w4 hO4 hg4; have hU4 := hU3.own hO3 hg4 (Nat.le_refl _))
    | fail "arm")
  all_goals
    rw [← HE.out] at hO4
    try go_wp2
    go_ret
    exact ⟨_, rfl, hO4.mono (by have := HG.out; omega), HU1.out.trans hU4⟩

theorem renc_ok : ∀ (d : Nat) (k n : Int) (b l : Value) (es : List Int) (w : World), ItmAt w d k n b l es → es.length ≤ 1000000000 → Calls Tryd.prog 85 #[itm k n b l] w (REnc es w)
  | 0, _, n, _, _, _, w, .inl ⟨rfl, rfl, rfl, rfl⟩, _ => renc_int n w
  | 0, _, _, b, _, _, w, .inr ⟨rfl, rfl, rfl, bs, h1, h2, _, rfl⟩, _ => renc_bytes b bs w h1 h2
  | _ + 1, _, n, _, _, _, w, .inl (.inl ⟨rfl, rfl, rfl, rfl⟩), _ => renc_int n w
  | _ + 1, _, _, b, _, _, w, .inl (.inr ⟨rfl, rfl, rfl, bs, h1, h2, _, rfl⟩), _ => renc_bytes b bs w h1 h2
  | d + 1, _, _, _, l, _, w, .inr ⟨rfl, rfl, rfl, ess, h4, h5, rfl⟩, hl => renc_list l ess _ w h5 h4 (by rw [encList_length] at hl; omega) (fun _ _ _ _ _ h => itm_shape h) fun k n b l es h he w' hU => renc_ok d k n b l es w' (h.up hU) he
end Go.Proofs.YtdlcmpbpdbpanaaDoor
