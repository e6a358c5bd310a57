/- Package encode: numbers in bytes. Package encode: what is written. Package encode: lists that are written; Encode. Package draw: sources as values; Valid, position, first. The number of a digest: doublings, and products. No program in sight. -/
import Derived.Test.YtdbhleinhpiohaaGreatDoorMB11
namespace Go.Proofs.YtdbhleinhpiohaaGreatDoor
open Go.RowKit Go.Sp
set_option maxHeartbeats 2000000
set_option maxRecDepth 20000

theorem encNumber_any (n : Int) (size : Nat) (base : Nat) (v : Value) (xs : List Int) (w : World) (h : OwnS 5 .u8 w base v xs) (hb : base ≤ w.heap.size) (hs : size ≤ 8) (_h0 : 0 ≤ n) (_h1 : n < 18446744073709551616) (hl : xs.length ≤ 2000000000) :
    Calls Tryz.prog 92 #[v, .int .u64 n, .int .i64 size] w fun e w' => ∃ v', e = .returned v' ∧ OwnS 5 .u8 w' base v' (xs ++ beL size n) ∧ w.grownBy w' v.ownBlock := by
  have HO0 := hid h
  have HStep := hid (beL_snoc size n)
  have HBl := hid (beL_length size n)
  obtain ⟨S, hS⟩ : ∃ S, beL size n = S := ⟨_, rfl⟩
  rw [hS] at HStep HBl
  rw [hS]
  obtain ⟨m, hm⟩ : ∃ m, xs.length = m := ⟨_, rfl⟩
  have HM := hid hm
  rw [hm] at hl
  obtain ⟨p0, c0, rfl, _, _⟩ := h.shape
  rw [hm] at HO0
  rw [hm]
  obtain ⟨r, hr⟩ : ∃ r, (Value.slice p0 m c0).ownBlock = r := ⟨_, rfl⟩
  have HR := hid hr
  rw [hr]
  have HLen : Hid (∀ i, i ≤ size → (xs ++ S.take i).length = m + i) := hid (fun i hi => by rw [List.length_append, HM.out, List.length_take, HBl.out]; omega)
  rw [show xs = xs ++ S.take 0 by simp] at HO0
  clear hS hm h hr
  go_enter Tryz.func92, Tryz.ntmps92
  go_wp2_with fail
  go_loopw [0, 7] (fun vp vk wr => ∃ (i : Nat) (p : Option Addr) (cp : Nat) (j : Int), i ≤ size ∧ vk = .int .i64 j ∧ vp = .slice p (m + i) cp ∧ Hid (j = (size : Int) - 1 - i) ∧ -1 ≤ j ∧ j ≤ 7 ∧ Hid (OwnS 5 .u8 wr base (.slice p (m + i) cp) (xs ++ S.take i)) ∧ Hid (w.grownBy wr r) ∧ Hid ((Value.slice p (m + i) cp).ownBlock = r ∨ ∀ k, (Value.slice p (m + i) cp).ownBlock = some k → w.heap.size ≤ k)) (fun _ vk _ => (intOf vk + 1).toNat)
  case atStart => exact ⟨0, p0, c0, _, by omega, rfl, rfl, hid (by simp), by omega, by omega, HO0, hid (World.grownBy.refl _ _), hid (.inl HR.out)⟩
  case round =>
    clear HO0
    obtain ⟨i, p, cp, j, hi, rfl, rfl, HJ, hj1, hj2, HO, HG, HX⟩ := hrel
    by_cases hlt : i < size
    · have hj0 : 0 ≤ j := by have := HJ.out; omega
      have d0 : decide (j ≥ 0) = true := by simpa using hj0
      have HT := hid (HStep.out i hlt)
      have HL1 := hid (HLen.out i (by omega))
      have HL2 := hid (HLen.out (i + 1) (by omega))
      have HE : Hid ((8 * j).toNat = 8 * (size - 1 - i)) := hid (by have := HJ.out; omega)
      have hj8 : (0 : Int) ≤ 8 * j := by omega
      have hbs : base ≤ wr.heap.size := by have := HG.out.size; omega
      obtain ⟨q, hq⟩ : ∃ q, m + i = q := ⟨_, rfl⟩
      have HQ := hid hq
      have hq0 : q ≤ 2000000008 := by omega
      rw [hq] at HO HL1 HX
      rw [hq]
      clear hq
      go_wp2_with (at_builtin; refine wp_app_at infoU8 Tryz.underlying73 (by omega) rfl _ _ rfl base rfl rfl (HO.out.up ((Up.refl wr).alloc _)) (seq_new _ _ _) (by simp) (by have := HL1.out; simp; simp at this; omega) (by simp; omega) ?_; intro v' w' hO' hg' hx')
      have hO2 : OwnS 5 .u8 w' base v' (xs ++ S.take (i + 1)) := by
        rw [HT.out, ← List.append_assoc, ← HE.out]; exact hO'
      have hG2 : w.grownBy w' r := by
        refine grownBy_trans HG.out (grownBy_trans (grownBy_up ((Up.refl wr).alloc _)) hg' (.inl rfl)) ?_
        rcases HX.out with h | h
        · exact .inl h
        · exact .inr h
      have hX2 : v'.ownBlock = r ∨ ∀ k, v'.ownBlock = some k → w.heap.size ≤ k := by
        rcases hx' with h | h
        · rw [h]; exact HX.out
        · refine .inr fun k hk => ?_
          rw [h] at hk
          simp only [Option.some.injEq] at hk
          have := HG.out.size
          simp at hk
          omega
      obtain ⟨p', k', rfl, _, _⟩ := hO2.shape
      rw [HL2.out] at hO2 hX2
      rw [HL2.out]
      have HO2 := hid hO2
      have HG2 := hid hG2
      have HX2 := hid hX2
      have HJ2 : Hid (j - 1 = (size : Int) - 1 - ((i + 1 : Nat) : Int)) := hid (by have := HJ.out; omega)
      clear hO' hg' hx' hO2 hG2 hX2 HO HG HX
      go_wp2_with fail
      go_roundw
      case rel => exact ⟨i + 1, p', k', j - 1, by omega, rfl, rfl, HJ2, by omega, by omega, HO2, HG2, HX2⟩
      case measure => simp [intOf]; omega
    · have d0 : decide (j ≥ 0) = false := by have := HJ.out; simp; omega
      have HSe : Hid (xs ++ S.take i = xs ++ S) := hid (by rw [List.take_of_length_le (by rw [HBl.out]; omega)])
      go_wp2
      go_ret
      exact ⟨_, rfl, by rw [← HSe.out]; exact HO.out, HG.out⟩
end Go.Proofs.YtdbhleinhpiohaaGreatDoor
namespace Go.Proofs.YtdbhleinhpiohaaGreatDoor
open Go.RowKit Go.Sp
set_option maxHeartbeats 2000000
set_option maxRecDepth 20000

/-- What write leaves. -/
def WriteOut (base : Nat) (xs es : List Int) (w : World) (e : Ending) (w' : World) : Prop :=
  ∃ v' ys, e = .returned v' ∧ OwnS 5 .u8 w' base v' ys ∧ Below base w w' ∧ Wrote xs es ys

theorem below_trans {B : Nat} {a b c : World} (h : Below B a b) (k : Below B b c) : Below B a c := Below.trans h k
theorem below_of_up {B : Nat} {a b : World} (h : Up a b) (hb : B ≤ a.heap.size) : Below B a b := h.below.mono hb

theorem up_below {B : Nat} {w0 a b : World} (h : Up w0 a) (k : Below B a b) (h0 : w0.heap.size ≤ B) : Up w0 b := Below.trans h (k.mono h0)
theorem keepI1 {w : World} {g : Nat} {t : TypeId} {cs : Array Value} {v : Value} (h : w.cell? ⟨g, 2, none⟩ = some v ∧ Hid (Blk w g t cs)) : w.drew.cell? ⟨g, 2, none⟩ = some v ∧ Hid (Blk w.drew g t cs) := ⟨by rw [(Up.refl w).drew.cell (cell_in h.1)]; exact h.1, hid (h.2.out.up (Up.refl w).drew)⟩
theorem keepI2 {w w' : World} {g : Nat} {t : TypeId} {cs : Array Value} {v : Value} {r : Option Nat} (h : w.cell? ⟨g, 2, none⟩ = some v ∧ Hid (Blk w g t cs)) (hg : w.grownBy w' r) (hr : some g ≠ r) : w'.cell? ⟨g, 2, none⟩ = some v ∧ Hid (Blk w' g t cs) := by
  have h2 := h.2.out.grown hg hr
  exact ⟨by rw [h2.read, ← h.2.out.read]; exact h.1, hid h2⟩

theorem keepI3 {w w' : World} {g : Nat} {t e : TypeId} {k : IntKind} {base : Nat} {u : Value} {xs : List Int} {cs : Array Value} {v : Value} (hO : OwnS e k w base u xs) (hg : w.grownBy w' u.ownBlock) (hne : t ≠ e) (h : w.cell? ⟨g, 2, none⟩ = some v ∧ Hid (Blk w g t cs)) : w'.cell? ⟨g, 2, none⟩ = some v ∧ Hid (Blk w' g t cs) := keepI2 h hg (hO.apart h.2.out hne)

theorem write_full (k n : Int) (b l : Value) (es : List Int) (v : Value) (xs : List Int) (base : Nat) (w : World) (h : OwnS 5 .u8 w base v xs) (hb : base ≤ w.heap.size) (hx : 16384 < xs.length) :
    Calls Tryz.prog 77 #[v, itm k n b l] w (WriteOut base xs es w) := by
  have HO := hid h
  obtain ⟨p, c, rfl, _, _⟩ := h.shape
  obtain ⟨m, hm⟩ : ∃ m, xs.length = m := ⟨_, rfl⟩
  have HM := hid hm
  rw [hm] at HO hx
  rw [hm]
  have d0 : decide ((m : Int) > 16384) = true := by simp; omega
  have HW : Hid (Wrote xs es xs) := hid (.full es (by rw [HM.out]; exact hx))
  clear h hm
  go_enter Tryz.func77, Tryz.ntmps77
  go_wp2
  go_ret
  exact ⟨_, xs, rfl, HO.out.up ((Up.refl w).alloc _), below_of_up ((Up.refl w).alloc _) hb, HW.out⟩

theorem write_int (n : Int) (v : Value) (xs : List Int) (base : Nat) (w : World) (h : OwnS 5 .u8 w base v xs) (hb : base ≤ w.heap.size) (hx : xs.length ≤ 16384) :
    Calls Tryz.prog 77 #[v, itm 1 n nilS nilS] w (WriteOut base xs (encInt n) w) := by
  have HO := hid h
  obtain ⟨p, c, rfl, _, _⟩ := h.shape
  obtain ⟨m, hm⟩ : ∃ m, xs.length = m := ⟨_, rfl⟩
  have HM := hid hm
  rw [hm] at HO hx
  rw [hm]
  have d0 : decide ((m : Int) > 16384) = false := by simp; omega
  have hr : 0 ≤ IntKind.u64.wrap n ∧ IntKind.u64.wrap n < 18446744073709551616 := by rw [IntKind.wrap_u64]; omega
  obtain ⟨N, hN⟩ : ∃ N, IntKind.u64.wrap n = N := ⟨_, rfl⟩
  have HE : Hid (encInt n = 1 :: beL 8 N) := hid (by rw [encInt, hN])
  rw [hN] at hr
  have HW := hid (Wrote.all xs (encInt n))
  have HNum := hid (fun v' xs' w' (h : OwnS 5 .u8 w' base v' xs') hb' hl => encNumber_any N 8 base v' xs' w' h hb' (by omega) hr.1 hr.2 hl)
  clear h hm hr
  go_enter Tryz.func77, Tryz.ntmps77
  go_wp2_with (at_builtin; refine wp_app infoU8 Tryz.underlying73 (by omega) rfl _ _ rfl base rfl rfl (HO.out.up (((Up.refl w).alloc _).alloc _)) (seq_new_at (by simp)) (by have := HM.out; simp; omega) (by simp; omega) ?_; intro v1 w1 hO1 hg1; have hX0 : Blk ((w.alloc (.cells #[.int .i64 1, .int .i64 n, nilS, nilS] 76)).alloc (.cells #[.int .u8 1] 5)) w.heap.size 76 #[.int .i64 1, .int .i64 n, nilS, nilS] := (Blk.new rfl rfl).alloc _; have HX1 := hid (hX0.grown hg1 ((HO.out.up (((Up.refl w).alloc _).alloc _)).apart hX0 (by decide))); have HB1 := hid (below_trans (below_of_up (((Up.refl w).alloc (.cells #[.int .i64 1, .int .i64 n, nilS, nilS] 76)).alloc (.cells #[.int .u8 1] 5)) hb) (below_own (HO.out.up (((Up.refl w).alloc _).alloc _)) hg1 (by simp; omega))); have q0 := HX1.out.val (i := 0) rfl; have q1 := HX1.out.val (i := 1) rfl; have lx := HX1.out.lt; have HO1 := hid hO1; have hbw : base ≤ w1.heap.size := (by omega); clear hX0 hO1 hg1)
  refine (HNum.out _ _ _ HO1.out hbw (by simp; have := HM.out; omega)).mono ?_
  rintro e w2 ⟨v2, rfl, hO2, hg2⟩
  have hB2 := below_trans HB1.out (below_own HO1.out hg2 hbw)
  have hE : xs ++ [1] ++ beL 8 N = xs ++ encInt n := by rw [HE.out]; simp
  rw [hE] at hO2
  go_wp2
  go_ret
  exact ⟨_, _, rfl, hO2, hB2, HW.out⟩

theorem write_bytes (b : Value) (bs : List Int) (v : Value) (xs : List Int) (base : Nat) (w : World) (h : OwnS 5 .u8 w base v xs) (hb : base ≤ w.heap.size) (hx : xs.length ≤ 16384) (w0 : World) (hU0 : Up w0 w) (h0 : w0.heap.size ≤ base) (hs : SeqAt .u8 w0 b bs) (hl : bs.length ≤ 1000000) :
    Calls Tryz.prog 77 #[v, itm 2 0 b nilS] w (WriteOut base xs (encBytes bs) w) := by
  have HO := hid h
  have HS := hid hs
  have HU0 := hid hU0
  obtain ⟨p, c, rfl, _, _⟩ := h.shape
  obtain ⟨pb, cb, rfl, _, _⟩ := hs.shape
  obtain ⟨m, hm⟩ : ∃ m, xs.length = m := ⟨_, rfl⟩
  have HM := hid hm
  obtain ⟨nb, hnb⟩ : ∃ nb, bs.length = nb := ⟨_, rfl⟩
  have HNb := hid hnb
  rw [hm] at HO hx
  rw [hnb] at HS hl
  rw [hm, hnb]
  have d0 : decide ((m : Int) > 16384) = false := by simp; omega
  have HE : Hid (encBytes bs = 2 :: (beL 4 nb ++ bs)) := hid (by rw [encBytes, hnb])
  have HW := hid (Wrote.all xs (encBytes bs))
  have HNum := hid (fun v' xs' w' (h : OwnS 5 .u8 w' base v' xs') hb' hl' => encNumber_any nb 4 base v' xs' w' h hb' (by omega) (by omega) (by omega) hl')
  have hwr : IntKind.u64.wrap (nb : Int) = (nb : Int) := by rw [IntKind.wrap_u64]; omega
  clear h hs hm hnb hU0
  go_enter Tryz.func77, Tryz.ntmps77
  go_wp2_with (at_builtin; refine wp_app infoU8 Tryz.underlying73 (by omega) rfl _ _ rfl base rfl rfl (HO.out.up (((Up.refl w).alloc _).alloc _)) (seq_new_at (by simp)) (by have := HM.out; simp; omega) (by simp; omega) ?_; intro v1 w1 hO1 hg1; have hX0 : Blk ((w.alloc (.cells #[.int .i64 2, .int .i64 0, .slice pb nb cb, nilS] 76)).alloc (.cells #[.int .u8 2] 5)) w.heap.size 76 #[.int .i64 2, .int .i64 0, .slice pb nb cb, nilS] := (Blk.new rfl rfl).alloc _; have HX1 := hid (hX0.grown hg1 ((HO.out.up (((Up.refl w).alloc _).alloc _)).apart hX0 (by decide))); have HB1 := hid (below_trans (below_of_up (((Up.refl w).alloc (.cells #[.int .i64 2, .int .i64 0, .slice pb nb cb, nilS] 76)).alloc (.cells #[.int .u8 2] 5)) hb) (below_own (HO.out.up (((Up.refl w).alloc _).alloc _)) hg1 (by simp; omega))); have q0 := HX1.out.val (i := 0) rfl; have q1 := HX1.out.val (i := 2) rfl; have lx := HX1.out.lt; have HO1 := hid hO1; have hbw : base ≤ w1.heap.size := (by omega); clear hX0 hO1 hg1)
  obtain ⟨g, hg⟩ : ∃ g, w.heap.size = g := ⟨_, rfl⟩
  rw [hg] at HX1 q0 q1 lx
  rw [hg]
  clear hg
  have hS0 := And.intro q1 HX1
  have hNe := hid (HO1.out.apart HX1.out (by decide))
  clear q0 q1
  go_region_held3 (fun w' => w'.cell? ⟨g, 2, none⟩ = some (.slice pb nb cb) ∧ Hid (Blk w' g 76 #[.int .i64 2, .int .i64 0, .slice pb nb cb, nilS])) (first | exact keepI1 (by assumption) | exact keepI3 hO2 hg3 (by decide) (by assumption) | exact keepI2 (by assumption) hg2 hNe.out) (first
    | (go_at_call 92; refine (HNum.out _ _ _ (HO1.out.up (by first | exact Up.refl _ | exact (Up.refl _).drew | exact (Up.refl _).drew.drew)) (by first | exact hbw | (simp; exact hbw)) (by simp; have := HM.out; omega)).mono ?_; rintro e w2 ⟨v2, rfl, hO2, hg2⟩; have hB2 := below_trans HB1.out (below_trans (below_of_up (by first | exact Up.refl _ | exact (Up.refl _).drew | exact (Up.refl _).drew.drew) hbw) (below_own (HO1.out.up (by first | exact Up.refl _ | exact (Up.refl _).drew | exact (Up.refl _).drew.drew)) hg2 (by first | exact hbw | (simp; exact hbw)))); have hbw2 : base ≤ w2.heap.size := (by have := hg2.size; simp at this; omega))
    | (refine step_app infoU8 Tryz.underlying73 (by omega) (by rfl) _ _ (by rfl) base (by rfl) (by rfl) hO2 (HS.out.up (up_below HU0.out hB2 h0)) (by have := HM.out; have := HNb.out; simp [beL_length]; omega) hbw2 ?_; intro v3 w3 hO3 hg3; have hB3 := below_trans hB2 (below_own hO2 hg3 hbw2)))
  have hE : xs ++ [2] ++ beL 4 nb ++ bs = xs ++ encBytes bs := by rw [HE.out]; simp
  rw [hE] at hO3
  go_wp2
  go_ret
  exact ⟨_, _, rfl, hO3, hB3, HW.out⟩

end Go.Proofs.YtdbhleinhpiohaaGreatDoor
namespace Go.Proofs.YtdbhleinhpiohaaGreatDoor
open Go.RowKit Go.Sp
set_option maxHeartbeats 2000000
set_option maxRecDepth 20000

theorem leaf_shape {w : World} {k n : Int} {b l : Value} {es : List Int} (h : Leaf w k n b l es) : (∃ a m c, b = .slice a m c) ∧ ∃ a m c, l = .slice a m c := by
  rcases h with ⟨_, rfl, rfl, _⟩ | ⟨_, _, rfl, xs, h, _⟩
  · exact ⟨⟨_, _, _, rfl⟩, _, _, _, rfl⟩
  · obtain ⟨a, cap, rfl, _⟩ := h
    exact ⟨⟨_, _, _, rfl⟩, _, _, _, rfl⟩
theorem itm_shape {w : World} : ∀ {d : Nat} {k n : Int} {b l : Value} {es : List Int}, ItmAt w d k n b l es → (∃ a m c, b = .slice a m c) ∧ ∃ a m c, l = .slice a m c
  | 0, _, _, _, _, _, h => leaf_shape h
  | _ + 1, _, _, _, _, _, .inl h => leaf_shape h
  | _ + 1, _, _, _, _, _, .inr ⟨_, _, h, ess, _, h5, _⟩ => by
    obtain ⟨a, cap, rfl, _⟩ := h5
    subst h
    exact ⟨⟨_, _, _, rfl⟩, _, _, _, rfl⟩

theorem write_list (l : Value) (ess : List (List Int)) (R : Int → Int → Value → Value → List Int → Prop) (v : Value) (xs : List Int) (base : Nat) (w : World) (h : OwnS 5 .u8 w base v xs) (hb : base ≤ w.heap.size) (hx : xs.length ≤ 16384) (w0 : World) (hU0 : Up w0 w) (h0 : w0.heap.size ≤ base) (hr : ItmRow R w0 l ess) (hl : ess.length ≤ 1000)
    (hsh : ∀ k n b l es, R k n b l es → (∃ a m c, b = .slice a m c) ∧ ∃ a m c, l = .slice a m c)
    (hf : ∀ k n b l es, R k n b l es → ∀ v xs w, OwnS 5 .u8 w base v xs → base ≤ w.heap.size → Up w0 w → Calls Tryz.prog 77 #[v, itm k n b l] w (WriteOut base xs es w)) :
    Calls Tryz.prog 77 #[v, itm 3 0 nilS l] w (WriteOut base xs (encList ess) w) := by
  have HO := hid h
  have HU0 := hid hU0
  have HF := hid hf
  have HSh := hid hsh
  obtain ⟨p, c, rfl, _, _⟩ := h.shape
  obtain ⟨a, cap, rfl, hc1, hc2, _, hi⟩ := hr
  obtain ⟨m, hm⟩ : ∃ m, xs.length = m := ⟨_, rfl⟩
  have HM := hid hm
  obtain ⟨q, hq⟩ : ∃ q, ess.length = q := ⟨_, rfl⟩
  have HQ := hid hq
  rw [hm] at HO hx
  rw [hq] at hl hc1 hi
  rw [hm, hq]
  have HI := hid hi
  have d0 : decide ((m : Int) > 16384) = false := by simp; omega
  have HE : Hid (encList ess = 3 :: (beL 4 q ++ ess.flatten)) := hid (by rw [encList, hq])
  have HNum := hid (fun v' xs' w' (h : OwnS 5 .u8 w' base v' xs') hb' hl' => encNumber_any q 4 base v' xs' w' h hb' (by omega) (by omega) (by omega) hl')
  have hwr : IntKind.u64.wrap (q : Int) = (q : Int) := by rw [IntKind.wrap_u64]; omega
  clear h hm hq hU0 hi hf hsh
  go_enter Tryz.func77, Tryz.ntmps77
  go_wp2_with (at_builtin; refine wp_app infoU8 Tryz.underlying73 (by omega) rfl _ _ rfl base rfl rfl (HO.out.up (((Up.refl w).alloc _).alloc _)) (seq_new_at (by simp)) (by have := HM.out; simp; omega) (by simp; omega) ?_; intro v1 w1 hO1 hg1; have hX0 : Blk ((w.alloc (.cells #[.int .i64 3, .int .i64 0, nilS, .slice a q cap] 76)).alloc (.cells #[.int .u8 3] 5)) w.heap.size 76 #[.int .i64 3, .int .i64 0, nilS, .slice a q cap] := (Blk.new rfl rfl).alloc _; have HX1 := hid (hX0.grown hg1 ((HO.out.up (((Up.refl w).alloc _).alloc _)).apart hX0 (by decide))); have HB1 := hid (below_trans (below_of_up (((Up.refl w).alloc (.cells #[.int .i64 3, .int .i64 0, nilS, .slice a q cap] 76)).alloc (.cells #[.int .u8 3] 5)) hb) (below_own (HO.out.up (((Up.refl w).alloc _).alloc _)) hg1 (by simp; omega))); have q0 := HX1.out.val (i := 0) rfl; have q1 := HX1.out.val (i := 3) rfl; have lx := HX1.out.lt; have HO1 := hid hO1; have hbw : base ≤ w1.heap.size := (by omega); clear hX0 hO1 hg1)
  refine (HNum.out _ _ _ HO1.out hbw (by simp; have := HM.out; omega)).mono ?_
  rintro e w2 ⟨v2, rfl, hO2, hg2⟩
  have HB2 := hid (below_trans HB1.out (below_own HO1.out hg2 hbw))
  have HX2 := hid (HX1.out.grown hg2 (HO1.out.apart HX1.out (by decide)))
  have HO2 := hid hO2
  have hbw2 : base ≤ w2.heap.size := by have := hg2.size; omega
  have HW2 : Hid (Wrote xs (3 :: (beL 4 q ++ (ess.take 0).flatten)) (xs ++ [3] ++ beL 4 q)) := hid (by
    have := Wrote.all xs (3 :: (beL 4 q ++ (ess.take 0).flatten))
    simpa using this)
  clear q0 q1 lx hO2 hg2 HO1 HX1 HB1
  have q1 := HX2.out.val (i := 3) rfl
  go_wp2_with fail
  clear q1 HX2
  go_loopw [0, 46] (fun vp vi wr => ∃ (i : Nat) (ys : List Int), i ≤ q ∧ vi = .int .i64 i ∧ Hid (OwnS 5 .u8 wr base vp ys) ∧ Hid (Wrote xs (3 :: (beL 4 q ++ (ess.take i).flatten)) ys) ∧ Hid (Below base w wr) ∧ base ≤ wr.heap.size) (fun _ vi _ => q - (intOf vi).toNat)
  case atStart => exact ⟨0, _, by omega, rfl, HO2, HW2, HB2, hbw2⟩
  case round =>
    clear HO2 HW2 HB2 hbw2
    obtain ⟨i, ys, hiq, rfl, HOr, HWr, HBr, hbr⟩ := hrel
    by_cases hlt : i < q
    · obtain ⟨b, off, k, n, vb, vl, rfl, hc, hr⟩ := HI.out i hlt
      have HUr := hid (up_below HU0.out HBr.out h0)
      obtain ⟨c0, c1, c2, c3⟩ := hc.up HUr.out
      obtain ⟨⟨ba, bn, bc, rfl⟩, la, ln, lc, rfl⟩ := HSh.out _ _ _ _ _ hr
      have HC := hid (fun v xs w' h1 h2 h3 => HF.out k n _ _ _ hr v xs w' h1 h2 h3)
      have HWn : Hid (∀ zs, Wrote ys (ess.getD i []) zs → Wrote xs (3 :: (beL 4 q ++ (ess.take (i + 1)).flatten)) zs) := hid (fun zs hz => by
        have := HWr.out.next hz
        rw [flatten_take (by rw [HQ.out]; exact hlt), ← List.append_assoc]
        simpa using this)
      generalize ess.getD i [] = es at *
      clear hc hr
      go_wp2_with fail
      refine (HC.out _ ys _ (HOr.out.up ((Up.refl wr).alloc _)) (by simp; omega) (HUr.out.alloc _)).mono ?_
      rintro e w3 ⟨v3, zs, rfl, hO3, hB3, hW3⟩
      have HO3 := hid hO3
      have HW3 := hid (HWn.out zs hW3)
      have HB3 := hid (below_trans HBr.out (below_trans (below_of_up ((Up.refl wr).alloc (.cells #[.int .i64 k, .int .i64 n, .slice ba bn bc, .slice la ln lc] 76)) hbr) hB3))
      have hb3 : base ≤ w3.heap.size := by have := hB3.size; simp at this; omega
      clear hO3 hW3 hB3 c0 c1 c2 c3
      go_wp2_with fail
      go_roundw
      case rel => exact ⟨i + 1, zs, by omega, by go_num, HO3, HW3, HB3, hb3⟩
      case measure => simp [intOf]; omega
    · have hlt2 : decide (i < q) = false := by simpa using hlt
      have HE2 : Hid (Wrote xs (encList ess) ys) := hid (by
        rw [HE.out]
        have := HWr.out
        rw [List.take_of_length_le (by rw [HQ.out]; omega)] at this
        exact this)
      go_wp2
      go_ret
      exact ⟨_, ys, rfl, HOr.out, HBr.out, HE2.out⟩

theorem write_ok (w0 : World) (base : Nat) (h0 : w0.heap.size ≤ base) : ∀ (d : Nat) (k n : Int) (b l : Value) (es : List Int), ItmAt w0 d k n b l es → ∀ v xs w, OwnS 5 .u8 w base v xs → base ≤ w.heap.size → Up w0 w →
    Calls Tryz.prog 77 #[v, itm k n b l] w (WriteOut base xs es w) := by
  intro d
  induction d with
  | zero =>
    intro k n b l es h v xs w hO hb hU
    by_cases hx : xs.length ≤ 16384
    · rcases h with ⟨rfl, rfl, rfl, rfl⟩ | ⟨rfl, rfl, rfl, bs, h1, h2, _, rfl⟩
      · exact write_int n v xs base w hO hb hx
      · exact write_bytes b bs v xs base w hO hb hx w0 hU h0 h1 h2
    · exact write_full k n b l es v xs base w hO hb (by omega)
  | succ d ih =>
    intro k n b l es h v xs w hO hb hU
    by_cases hx : xs.length ≤ 16384
    · rcases h with h | ⟨rfl, rfl, rfl, ess, hl, hr, rfl⟩
      · rcases h with ⟨rfl, rfl, rfl, rfl⟩ | ⟨rfl, rfl, rfl, bs, h1, h2, _, rfl⟩
        · exact write_int n v xs base w hO hb hx
        · exact write_bytes b bs v xs base w hO hb hx w0 hU h0 h1 h2
      · exact write_list l ess _ v xs base w hO hb hx w0 hU h0 hr hl (fun _ _ _ _ _ h => itm_shape h) ih
    · exact write_full k n b l es v xs base w hO hb (by omega)

/-- What Encode returns. -/
def EncOut (es : List Int) (w : World) (e : Ending) (w' : World) : Prop :=
  ∃ v, e = .returned (.tuple #[v, .int .i64 (if es.length ≤ 16384 then 0 else 5)]) ∧ OwnS 5 .u8 w' w.heap.size v (if es.length ≤ 16384 then es else []) ∧ Up w w'

theorem EncOut.ok {es : List Int} {w w' : World} {v : Value} (hl : es.length ≤ 16384) (hO : OwnS 5 .u8 w' w.heap.size v es) (hU : Up w w') : EncOut es w (.returned (.tuple #[v, .int .i64 0])) w' := ⟨v, by rw [if_pos hl], by rw [if_pos hl]; exact hO, hU⟩
theorem EncOut.no {es : List Int} {w w' : World} (hl : ¬ es.length ≤ 16384) (hU : Up w w') : EncOut es w (.returned (.tuple #[nilS, .int .i64 5])) w' := ⟨_, by rw [if_neg hl], by rw [if_neg hl]; exact own_none, hU⟩

theorem Encode_ok {d : Nat} {k n : Int} {b l : Value} {es : List Int} {w : World} (h : ItmAt w d k n b l es) (hd : d ≤ 8) :
    Calls Tryz.prog 41 #[itm k n b l] w (EncOut es w) := by
  have H := hid h
  obtain ⟨⟨ba, bn, bc, rfl⟩, la, ln, lc, rfl⟩ := itm_shape h
  clear h
  go_enter Tryz.func41, Tryz.ntmps41
  go_wp2_with fail
  refine (encValid_ok (H.out.up ((Up.refl w).alloc _)) hd).mono ?_
  rintro e w1 ⟨rfl, hU1⟩
  have hX1 : Blk w1 w.heap.size 76 #[.int .i64 k, .int .i64 n, .slice ba bn bc, .slice la ln lc] := (Blk.new rfl rfl).up hU1
  have q0 := hX1.val (i := 0) rfl
  have q1 := hX1.val (i := 1) rfl
  have q2 := hX1.val (i := 2) rfl
  have q3 := hX1.val (i := 3) rfl
  have HU1 := hid (((Up.refl w).alloc _).trans hU1)
  have hs1 : w.heap.size ≤ w1.heap.size := HU1.out.size
  clear hX1 hU1
  go_wp2_with fail
  refine (write_ok w w.heap.size (Nat.le_refl _) d k n _ _ es H.out nilS [] w1 own_none hs1 HU1.out).mono ?_
  rintro e w2 ⟨v2, ys, rfl, hO2, hB2, hW2⟩
  have HU2 : Hid (Up w w2) := hid (up_below HU1.out hB2 (Nat.le_refl _))
  obtain ⟨p2, c2, rfl, _, _⟩ := hO2.shape
  have HO2 := hid hO2
  obtain ⟨r1, r2, r3⟩ := hW2
  simp only [List.length_nil, Nat.zero_add, List.nil_append] at r1 r2 r3
  by_cases hl : es.length ≤ 16384
  · have hys := r1 hl
    subst hys
    have d1 : decide ((ys.length : Int) > 16384) = false := by simp; omega
    have HL := hid hl
    clear hl r1 r2 r3 hO2 hB2
    go_wp2
    go_ret2
    exact EncOut.ok HL.out HO2.out HU2.out
  · have hys := r2 (by omega)
    have d1 : decide ((ys.length : Int) > 16384) = true := by simp; omega
    have HL := hid hl
    clear hl r1 r2 r3 hO2 hB2 hys
    go_wp2
    go_ret2
    exact EncOut.no HL.out HU2.out

theorem Encode_short {d : Nat} {k n : Int} {b l : Value} {es : List Int} {w : World} (h : ItmAt w d k n b l es) (hd : d ≤ 8) (hl : es.length ≤ 16384) :
    Calls Tryz.prog 41 #[itm k n b l] w fun e w' => ∃ v, e = .returned (.tuple #[v, .int .i64 0]) ∧ OwnS 5 .u8 w' w.heap.size v es ∧ Up w w' :=
  (Encode_ok h hd).mono fun e w' ⟨v, h1, h2, h3⟩ => ⟨v, by rw [h1, if_pos hl], by rw [if_pos hl] at h2; exact h2, h3⟩
end Go.Proofs.YtdbhleinhpiohaaGreatDoor
namespace Go.Proofs.YtdbhleinhpiohaaGreatDoor
open Go.RowKit Go.Sp
set_option maxHeartbeats 2000000
set_option maxRecDepth 20000

/-- The cells of a source: the seed, and the counter. -/
def drwA (h : Nat → Int) (c : Int) : Array Value := (arrK .u8 h 32).push (.int .i64 c)
/-- A source as a value. -/
def drw (h : Nat → Int) (c : Int) : Value := .agg (drwA h c)
theorem drwA_size (h : Nat → Int) (c : Int) : (drwA h c).size = 33 := by simp [drwA, arrK_size]
theorem drwA_ctr (h : Nat → Int) (c : Int) : (drwA h c)[32]? = some (.int .i64 c) := by
  have : (arrK .u8 h 32).size = 32 := arrK_size
  rw [drwA, Array.getElem?_push, if_pos (by rw [this])]
theorem drwA_get (h : Nat → Int) (c : Int) {i : Nat} (hi : i < 32) : (drwA h c)[i]? = some (.int .u8 (h i)) := by
  have : (arrK .u8 h 32).size = 32 := arrK_size
  rw [drwA, Array.getElem?_push, if_neg (by rw [this]; omega), arrK_get hi]
theorem drwA_one (h : Nat → Int) (c : Int) : (drwA h c).all (·.oneCell') = true := by
  rw [drwA, Array.all_push, arrK_one]
  rfl

/-- Is a source valid? -/
def dvB (c : Int) : Bool := decide (0 ≤ c) && decide (c ≤ 1099511627776)
theorem dvB_iff {c : Int} : dvB c = true ↔ 0 ≤ c ∧ c ≤ 1099511627776 := by simp [dvB]

/-- The bytes of a source: the seed, and the counter. -/
def posL (h : Nat → Int) (c : Int) : List Int := hList h ++ beL 8 c
theorem posL_length (h : Nat → Int) (c : Int) : (posL h c).length = 40 := by simp [posL, hList_length, beL_length]

theorem beL_take (c : Int) (k : Nat) (hk : k < 8) : (beL 8 c).take (k + 1) = (beL 8 c).take k ++ [c / 2 ^ (56 - 8 * k) % 256] := by
  rw [List.take_add_one]
  congr 1
  have : k < (beL 8 c).length := by rw [beL_length]; exact hk
  rw [List.getElem?_eq_getElem this]
  simp [beL, show 56 - 8 * k = 8 * (7 - k) by omega]

theorem seedAt {w : World} {b : Nat} {t : TypeId} {h : Nat → Int} {cs : Array Value} (hb : Blk w b t cs) (hc : ∀ i, i < 32 → cs[i]? = some (.int .u8 (h i))) : SeqAt .u8 w (.slice (some ⟨b, 0, none⟩) 32 32) (hList h) :=
  seq_block hb (hList h) 0 32 32 (hList_length h) (Nat.le_refl _) (by decide) fun i hi => by
    rw [Nat.zero_add, hc i hi]
    simp [hList, hi]

end Go.Proofs.YtdbhleinhpiohaaGreatDoor
namespace Go.Sp

theorem dbl_zero {x m : Int} (h0 : 0 ≤ x) (h1 : x < m) : x * 2 ^ 0 % m = x := by
  rw [show x * 2 ^ 0 = x by simp]
  exact Int.emod_eq_of_lt h0 h1
theorem dbl_step (x m : Int) (j : Nat) : (x * 2 ^ j % m + x * 2 ^ j % m) % m = x * 2 ^ (j + 1) % m := by
  rw [← Int.add_emod, Int.pow_succ, ← Int.mul_assoc]
  congr 1
  omega
theorem num_step (x c m : Int) : (x * 2 ^ 8 % m + c % m) % m = (x * 256 + c) % m := by
  rw [← Int.add_emod]
  rfl
theorem num_ref (x c m : Int) : (x * (256 % m) % m + c) % m = (x * 256 + c) % m := by
  have h : x * (256 % m) % m = x * 256 % m := by rw [Int.mul_emod, Int.emod_emod_of_dvd _ (Int.dvd_refl m), ← Int.mul_emod]
  rw [h, Int.emod_add_emod]
end Go.Sp
