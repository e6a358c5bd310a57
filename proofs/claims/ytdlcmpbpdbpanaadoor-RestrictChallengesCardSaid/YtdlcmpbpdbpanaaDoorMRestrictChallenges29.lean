/- Package encode: numbers in bytes. Package encode: what is written. -/
import Derived.Test.YtdlcmpbpdbpanaaDoorMRestrictChallenges28
import Derived.Test.YtdlcmpbpdbpanaaDoorMRestrictChallenges19
namespace Go.Proofs.YtdlcmpbpdbpanaaDoor
open Go.RowKit Go.Sp
set_option maxHeartbeats 2000000
set_option maxRecDepth 20000

theorem encNumber_any (n : Int) (size : Nat) (base : Nat) (v : Value) (xs : List Int) (w : World) (h : OwnS 5 .u8 w base v xs) (hb : base ≤ w.heap.size) (hs : size ≤ 8) (_h0 : 0 ≤ n) (_h1 : n < 18446744073709551616) (hl : xs.length ≤ 2000000000) :
    Calls Tryd.prog 154 #[v, .int .u64 n, .int .i64 size] w fun e w' => ∃ v', e = .returned v' ∧ OwnS 5 .u8 w' base v' (xs ++ beL size n) ∧ w.grownBy w' v.ownBlock := by
  have HO0 := hid h
  have HStep := hid (beL_snoc size n)
  have HBl := hid (beL_length size n)
  obtain ⟨S, hS⟩ : ∃ S, beL size n = S := ⟨_, rfl⟩
  rw [hS] at HStep HBl
  rw [hS]
  obtain ⟨m, hm⟩ : ∃ m, xs.length = m := ⟨_, rfl⟩
  have HM := hid hm
  rw [hm] at hl
  obtain ⟨p0, c0, rfl, _, _⟩ := h.shape
  rw [hm] at HO0
  rw [hm]
  obtain ⟨r, hr⟩ : ∃ r, (Value.slice p0 m c0).ownBlock = r := ⟨_, rfl⟩
  have HR := hid hr
  rw [hr]
  have HLen : Hid (∀ i, i ≤ size → (xs ++ S.take i).length = m + i) := hid (fun i hi => by rw [List.length_append, HM.out, List.length_take, HBl.out]; omega)
  rw [show xs = xs ++ S.take 0 by simp] at HO0
  clear hS hm h hr
  go_enter Tryd.func154, Tryd.ntmps154
  go_wp2_with fail
  go_loopw [0, 7] (fun vp vk wr => ∃ (i : Nat) (p : Option Addr) (cp : Nat) (j : Int), i ≤ size ∧ vk = .int .i64 j ∧ vp = .slice p (m + i) cp ∧ Hid (j = (size : Int) - 1 - i) ∧ -1 ≤ j ∧ j ≤ 7 ∧ Hid (OwnS 5 .u8 wr base (.slice p (m + i) cp) (xs ++ S.take i)) ∧ Hid (w.grownBy wr r) ∧ Hid ((Value.slice p (m + i) cp).ownBlock = r ∨ ∀ k, (Value.slice p (m + i) cp).ownBlock = some k → w.heap.size ≤ k)) (fun _ vk _ => (intOf vk + 1).toNat)
  case atStart => exact ⟨0, p0, c0, _, by omega, rfl, rfl, hid (by simp), by omega, by omega, HO0, hid (World.grownBy.refl _ _), hid (.inl HR.out)⟩
  case round =>
    clear HO0
    obtain ⟨i, p, cp, j, hi, rfl, rfl, HJ, hj1, hj2, HO, HG, HX⟩ := hrel
    by_cases hlt : i < size
    · have hj0 : 0 ≤ j := by have := HJ.out; omega
      have d0 : decide (j ≥ 0) = true := by simpa using hj0
      have HT := hid (HStep.out i hlt)
      have HL1 := hid (HLen.out i (by omega))
      have HL2 := hid (HLen.out (i + 1) (by omega))
      have HE : Hid ((8 * j).toNat = 8 * (size - 1 - i)) := hid (by have := HJ.out; omega)
      have hj8 : (0 : Int) ≤ 8 * j := by omega
      have hbs : base ≤ wr.heap.size := by have := HG.out.size; omega
      obtain ⟨q, hq⟩ : ∃ q, m + i = q := ⟨_, rfl⟩
      have HQ := hid hq
      have hq0 : q ≤ 2000000008 := by omega
      rw [hq] at HO HL1 HX
      rw [hq]
      clear hq
      go_wp2_with (at_builtin; refine wp_app_at infoU8 Tryd.underlying31 (by omega) rfl _ _ rfl base rfl rfl (HO.out.up ((Up.refl wr).alloc _)) (seq_new _ _ _) (by simp) (by have := HL1.out; simp; simp at this; omega) (by simp; omega) ?_; intro v' w' hO' hg' hx')
      have hO2 : OwnS 5 .u8 w' base v' (xs ++ S.take (i + 1)) := by
        rw [HT.out, ← List.append_assoc, ← HE.out]; exact hO'
      have hG2 : w.grownBy w' r := by
        refine grownBy_trans HG.out (grownBy_trans (grownBy_up ((Up.refl wr).alloc _)) hg' (.inl rfl)) ?_
        rcases HX.out with h | h
        · exact .inl h
        · exact .inr h
      have hX2 : v'.ownBlock = r ∨ ∀ k, v'.ownBlock = some k → w.heap.size ≤ k := by
        rcases hx' with h | h
        · rw [h]; exact HX.out
        · refine .inr fun k hk => ?_
          rw [h] at hk
          simp only [Option.some.injEq] at hk
          have := HG.out.size
          simp at hk
          omega
      obtain ⟨p', k', rfl, _, _⟩ := hO2.shape
      rw [HL2.out] at hO2 hX2
      rw [HL2.out]
      have HO2 := hid hO2
      have HG2 := hid hG2
      have HX2 := hid hX2
      have HJ2 : Hid (j - 1 = (size : Int) - 1 - ((i + 1 : Nat) : Int)) := hid (by have := HJ.out; omega)
      clear hO' hg' hx' hO2 hG2 hX2 HO HG HX
      go_wp2_with fail
      go_roundw
      case rel => exact ⟨i + 1, p', k', j - 1, by omega, rfl, rfl, HJ2, by omega, by omega, HO2, HG2, HX2⟩
      case measure => simp [intOf]; omega
    · have d0 : decide (j ≥ 0) = false := by have := HJ.out; simp; omega
      have HSe : Hid (xs ++ S.take i = xs ++ S) := hid (by rw [List.take_of_length_le (by rw [HBl.out]; omega)])
      go_wp2
      go_ret
      exact ⟨_, rfl, by rw [← HSe.out]; exact HO.out, HG.out⟩
end Go.Proofs.YtdlcmpbpdbpanaaDoor
namespace Go.Proofs.YtdlcmpbpdbpanaaDoor
open Go.RowKit Go.Sp
set_option maxHeartbeats 2000000
set_option maxRecDepth 20000

/-- What write leaves. -/
def WriteOut (base : Nat) (xs es : List Int) (w : World) (e : Ending) (w' : World) : Prop :=
  ∃ v' ys, e = .returned v' ∧ OwnS 5 .u8 w' base v' ys ∧ Below base w w' ∧ Wrote xs es ys

theorem below_trans {B : Nat} {a b c : World} (h : Below B a b) (k : Below B b c) : Below B a c := Below.trans h k
theorem below_of_up {B : Nat} {a b : World} (h : Up a b) (hb : B ≤ a.heap.size) : Below B a b := h.below.mono hb

theorem up_below {B : Nat} {w0 a b : World} (h : Up w0 a) (k : Below B a b) (h0 : w0.heap.size ≤ B) : Up w0 b := Below.trans h (k.mono h0)
theorem keepI1 {w : World} {g : Nat} {t : TypeId} {cs : Array Value} {v : Value} (h : w.cell? ⟨g, 2, none⟩ = some v ∧ Hid (Blk w g t cs)) : w.drew.cell? ⟨g, 2, none⟩ = some v ∧ Hid (Blk w.drew g t cs) := ⟨by rw [(Up.refl w).drew.cell (cell_in h.1)]; exact h.1, hid (h.2.out.up (Up.refl w).drew)⟩
theorem keepI2 {w w' : World} {g : Nat} {t : TypeId} {cs : Array Value} {v : Value} {r : Option Nat} (h : w.cell? ⟨g, 2, none⟩ = some v ∧ Hid (Blk w g t cs)) (hg : w.grownBy w' r) (hr : some g ≠ r) : w'.cell? ⟨g, 2, none⟩ = some v ∧ Hid (Blk w' g t cs) := by
  have h2 := h.2.out.grown hg hr
  exact ⟨by rw [h2.read, ← h.2.out.read]; exact h.1, hid h2⟩

theorem keepI3 {w w' : World} {g : Nat} {t e : TypeId} {k : IntKind} {base : Nat} {u : Value} {xs : List Int} {cs : Array Value} {v : Value} (hO : OwnS e k w base u xs) (hg : w.grownBy w' u.ownBlock) (hne : t ≠ e) (h : w.cell? ⟨g, 2, none⟩ = some v ∧ Hid (Blk w g t cs)) : w'.cell? ⟨g, 2, none⟩ = some v ∧ Hid (Blk w' g t cs) := keepI2 h hg (hO.apart h.2.out hne)

theorem write_full (k n : Int) (b l : Value) (es : List Int) (v : Value) (xs : List Int) (base : Nat) (w : World) (h : OwnS 5 .u8 w base v xs) (hb : base ≤ w.heap.size) (hx : 16384 < xs.length) :
    Calls Tryd.prog 120 #[v, itm k n b l] w (WriteOut base xs es w) := by
  have HO := hid h
  obtain ⟨p, c, rfl, _, _⟩ := h.shape
  obtain ⟨m, hm⟩ : ∃ m, xs.length = m := ⟨_, rfl⟩
  have HM := hid hm
  rw [hm] at HO hx
  rw [hm]
  have d0 : decide ((m : Int) > 16384) = true := by simp; omega
  have HW : Hid (Wrote xs es xs) := hid (.full es (by rw [HM.out]; exact hx))
  clear h hm
  go_enter Tryd.func120, Tryd.ntmps120
  go_wp2
  go_ret
  exact ⟨_, xs, rfl, HO.out.up ((Up.refl w).alloc _), below_of_up ((Up.refl w).alloc _) hb, HW.out⟩

theorem write_int (n : Int) (v : Value) (xs : List Int) (base : Nat) (w : World) (h : OwnS 5 .u8 w base v xs) (hb : base ≤ w.heap.size) (hx : xs.length ≤ 16384) :
    Calls Tryd.prog 120 #[v, itm 1 n nilS nilS] w (WriteOut base xs (encInt n) w) := by
  have HO := hid h
  obtain ⟨p, c, rfl, _, _⟩ := h.shape
  obtain ⟨m, hm⟩ : ∃ m, xs.length = m := ⟨_, rfl⟩
  have HM := hid hm
  rw [hm] at HO hx
  rw [hm]
  have d0 : decide ((m : Int) > 16384) = false := by simp; omega
  have hr : 0 ≤ IntKind.u64.wrap n ∧ IntKind.u64.wrap n < 18446744073709551616 := by rw [IntKind.wrap_u64]; omega
  obtain ⟨N, hN⟩ : ∃ N, IntKind.u64.wrap n = N := ⟨_, rfl⟩
  have HE : Hid (encInt n = 1 :: beL 8 N) := hid (by rw [encInt, hN])
  rw [hN] at hr
  have HW := hid (Wrote.all xs (encInt n))
  have HNum := hid (fun v' xs' w' (h : OwnS 5 .u8 w' base v' xs') hb' hl => encNumber_any N 8 base v' xs' w' h hb' (by omega) hr.1 hr.2 hl)
  clear h hm hr
  go_enter Tryd.func120, Tryd.ntmps120
  go_wp2_with (at_builtin; refine wp_app infoU8 Tryd.underlying31 (by omega) rfl _ _ rfl base rfl rfl (HO.out.up (((Up.refl w).alloc _).alloc _)) (seq_new_at (by simp)) (by have := HM.out; simp; omega) (by simp; omega) ?_; intro v1 w1 hO1 hg1; have hX0 : Blk ((w.alloc (.cells #[.int .i64 1, .int .i64 n, nilS, nilS] 87)).alloc (.cells #[.int .u8 1] 5)) w.heap.size 87 #[.int .i64 1, .int .i64 n, nilS, nilS] := (Blk.new rfl rfl).alloc _; have HX1 := hid (hX0.grown hg1 ((HO.out.up (((Up.refl w).alloc _).alloc _)).apart hX0 (by decide))); have HB1 := hid (below_trans (below_of_up (((Up.refl w).alloc (.cells #[.int .i64 1, .int .i64 n, nilS, nilS] 87)).alloc (.cells #[.int .u8 1] 5)) hb) (below_own (HO.out.up (((Up.refl w).alloc _).alloc _)) hg1 (by simp; omega))); have q0 := HX1.out.val (i := 0) rfl; have q1 := HX1.out.val (i := 1) rfl; have lx := HX1.out.lt; have HO1 := hid hO1; have hbw : base ≤ w1.heap.size := (by omega); clear hX0 hO1 hg1)
  refine (HNum.out _ _ _ HO1.out hbw (by simp; have := HM.out; omega)).mono ?_
  rintro e w2 ⟨v2, rfl, hO2, hg2⟩
  have hB2 := below_trans HB1.out (below_own HO1.out hg2 hbw)
  have hE : xs ++ [1] ++ beL 8 N = xs ++ encInt n := by rw [HE.out]; simp
  rw [hE] at hO2
  go_wp2
  go_ret
  exact ⟨_, _, rfl, hO2, hB2, HW.out⟩

theorem write_bytes (b : Value) (bs : List Int) (v : Value) (xs : List Int) (base : Nat) (w : World) (h : OwnS 5 .u8 w base v xs) (hb : base ≤ w.heap.size) (hx : xs.length ≤ 16384) (w0 : World) (hU0 : Up w0 w) (h0 : w0.heap.size ≤ base) (hs : SeqAt .u8 w0 b bs) (hl : bs.length ≤ 1000000) :
    Calls Tryd.prog 120 #[v, itm 2 0 b nilS] w (WriteOut base xs (encBytes bs) w) := by
  have HO := hid h
  have HS := hid hs
  have HU0 := hid hU0
  obtain ⟨p, c, rfl, _, _⟩ := h.shape
  obtain ⟨pb, cb, rfl, _, _⟩ := hs.shape
  obtain ⟨m, hm⟩ : ∃ m, xs.length = m := ⟨_, rfl⟩
  have HM := hid hm
  obtain ⟨nb, hnb⟩ : ∃ nb, bs.length = nb := ⟨_, rfl⟩
  have HNb := hid hnb
  rw [hm] at HO hx
  rw [hnb] at HS hl
  rw [hm, hnb]
  have d0 : decide ((m : Int) > 16384) = false := by simp; omega
  have HE : Hid (encBytes bs = 2 :: (beL 4 nb ++ bs)) := hid (by rw [encBytes, hnb])
  have HW := hid (Wrote.all xs (encBytes bs))
  have HNum := hid (fun v' xs' w' (h : OwnS 5 .u8 w' base v' xs') hb' hl' => encNumber_any nb 4 base v' xs' w' h hb' (by omega) (by omega) (by omega) hl')
  have hwr : IntKind.u64.wrap (nb : Int) = (nb : Int) := by rw [IntKind.wrap_u64]; omega
  clear h hs hm hnb hU0
  go_enter Tryd.func120, Tryd.ntmps120
  go_wp2_with (at_builtin; refine wp_app infoU8 Tryd.underlying31 (by omega) rfl _ _ rfl base rfl rfl (HO.out.up (((Up.refl w).alloc _).alloc _)) (seq_new_at (by simp)) (by have := HM.out; simp; omega) (by simp; omega) ?_; intro v1 w1 hO1 hg1; have hX0 : Blk ((w.alloc (.cells #[.int .i64 2, .int .i64 0, .slice pb nb cb, nilS] 87)).alloc (.cells #[.int .u8 2] 5)) w.heap.size 87 #[.int .i64 2, .int .i64 0, .slice pb nb cb, nilS] := (Blk.new rfl rfl).alloc _; have HX1 := hid (hX0.grown hg1 ((HO.out.up (((Up.refl w).alloc _).alloc _)).apart hX0 (by decide))); have HB1 := hid (below_trans (below_of_up (((Up.refl w).alloc (.cells #[.int .i64 2, .int .i64 0, .slice pb nb cb, nilS] 87)).alloc (.cells #[.int .u8 2] 5)) hb) (below_own (HO.out.up (((Up.refl w).alloc _).alloc _)) hg1 (by simp; omega))); have q0 := HX1.out.val (i := 0) rfl; have q1 := HX1.out.val (i := 2) rfl; have lx := HX1.out.lt; have HO1 := hid hO1; have hbw : base ≤ w1.heap.size := (by omega); clear hX0 hO1 hg1)
  obtain ⟨g, hg⟩ : ∃ g, w.heap.size = g := ⟨_, rfl⟩
  rw [hg] at HX1 q0 q1 lx
  rw [hg]
  clear hg
  have hS0 := And.intro q1 HX1
  have hNe := hid (HO1.out.apart HX1.out (by decide))
  clear q0 q1
  go_region_held3 (fun w' => w'.cell? ⟨g, 2, none⟩ = some (.slice pb nb cb) ∧ Hid (Blk w' g 87 #[.int .i64 2, .int .i64 0, .slice pb nb cb, nilS])) (first | exact keepI1 (by assumption) | exact keepI3 hO2 hg3 (by decide) (by assumption) | exact keepI2 (by assumption) hg2 hNe.out) (first
    | (go_at_call 154; refine (HNum.out _ _ _ (HO1.out.up (by first | exact Up.refl _ | exact (Up.refl _).drew | exact (Up.refl _).drew.drew)) (by first | exact hbw | (simp; exact hbw)) (by simp; have := HM.out; omega)).mono ?_; rintro e w2 ⟨v2, rfl, hO2, hg2⟩; have hB2 := below_trans HB1.out (below_trans (below_of_up (by first | exact Up.refl _ | exact (Up.refl _).drew | exact (Up.refl _).drew.drew) hbw) (below_own (HO1.out.up (by first | exact Up.refl _ | exact (Up.refl _).drew | exact (Up.refl _).drew.drew)) hg2 (by first | exact hbw | (simp; exact hbw)))); have hbw2 : base ≤ w2.heap.size := (by have := hg2.size; simp at this; omega))
    | (refine step_app infoU8 Tryd.underlying31 (by omega) (by rfl) _ _ (by rfl) base (by rfl) (by rfl) hO2 (HS.out.up (up_below HU0.out hB2 h0)) (by have := HM.out; have := HNb.out; simp [beL_length]; omega) hbw2 ?_; intro v3 w3 hO3 hg3; have hB3 := below_trans hB2 (below_own hO2 hg3 hbw2)))
  have hE : xs ++ [2] ++ beL 4 nb ++ bs = xs ++ encBytes bs := by rw [HE.out]; simp
  rw [hE] at hO3
  go_wp2
  go_ret
  exact ⟨_, _, rfl, hO3, hB3, HW.out⟩

end Go.Proofs.YtdlcmpbpdbpanaaDoor
