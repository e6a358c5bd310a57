/- The reference's encoding: integers, bytes and lists. The reference's challenge of a coin. -/
import Derived.Test.YtdlcmpbpdbpanaaGreatDoorMUnlinkExplains41
import Derived.Test.YtdlcmpbpdbpanaaGreatDoorMUnlinkExplains32
import Derived.Test.YtdlcmpbpdbpanaaGreatDoorMUnlinkExplains34
namespace Go.Proofs.YtdlcmpbpdbpanaaGreatDoor
open Go.RowKit Go.Sp
set_option maxHeartbeats 4000000
set_option maxRecDepth 20000

theorem own_one {w : World} {base g : Nat} (x : Int) (hg : w.heap.size = g) (hb : base ≤ g) : OwnS 5 .u8 (w.alloc (.cells #[.int .u8 x] 5)) base (.slice (some ⟨g, 0, none⟩) 1 1) [x] := by
  have h : Blk (w.alloc (.cells #[.int .u8 x] 5)) g 5 (arrK .u8 (fun _ => x) 1) := Blk.new hg (by kernel_rfl)
  exact h.own hb (by omega)

/-- What the reference's Encode returns. -/
def REnc (es : List Int) (w : World) (e : Ending) (w' : World) : Prop := ∃ v, e = .returned v ∧ OwnS 5 .u8 w' w.heap.size v es ∧ Up w w'

theorem renc_int (n : Int) (w : World) : Calls Tryz.prog 149 #[itm 1 n nilS nilS] w (REnc (encInt n) w) := by
  have hr : 0 ≤ IntKind.u64.wrap n ∧ IntKind.u64.wrap n < 18446744073709551616 := by rw [IntKind.wrap_u64]; omega
  have HNum := hid (fun w' => renc_eight (IntKind.u64.wrap n) w' hr.1 (by omega))
  have HE : Hid (encInt n = 1 :: beL 8 (IntKind.u64.wrap n)) := hid rfl
  clear hr
  go_enter Tryz.func149, Tryz.ntmps149
  go_wp2_with fail
  generalize IntKind.u64.wrap n = N at *
  refine (HNum.out _).mono ?_
  rintro e w2 ⟨v2, rfl, hO2, hU2⟩
  have hO1 := (own_one (w := w.alloc (.cells #[.int .i64 1, .int .i64 n, nilS, nilS] 152)) (g := w.heap.size + 1) (base := w.heap.size) 1 (by simp) (by omega)).up hU2
  have hU2 := (((Up.refl w).alloc _).alloc _).trans hU2
  go_wp2_with (at_builtin; refine wp_app infoU8 Tryz.underlying51 (by omega) rfl _ _ rfl w.heap.size rfl rfl hO1 hO2.seq (by simp [beL_length]) hU2.size ?_; intro v3 w3 hO3 hg3; have hU3 := hU2.own hO1 hg3 (Nat.le_refl _))
  go_ret
  exact ⟨_, rfl, by rw [HE.out]; exact hO3, hU3⟩

theorem renc_list (l : Value) (ess : List (List Int)) (R : Int → Int → Value → Value → List Int → Prop) (w : World) (hr : ItmRow R w l ess) (hl : ess.length ≤ 1000) (ht : ess.flatten.length ≤ 1000000000)
    (hsh : ∀ k n b l es, R k n b l es → (∃ a m c, b = .slice a m c) ∧ ∃ a m c, l = .slice a m c)
    (hf : ∀ k n b l es, R k n b l es → es.length ≤ 1000000000 → ∀ w', Up w w' → Calls Tryz.prog 149 #[itm k n b l] w' (REnc es w')) :
    Calls Tryz.prog 149 #[itm 3 0 nilS l] w (REnc (encList ess) w) := by
  have HF := hid hf
  have HSh := hid hsh
  obtain ⟨a, cap, rfl, hc1, hc2, _, hi⟩ := hr
  obtain ⟨q, hq⟩ : ∃ q, ess.length = q := ⟨_, rfl⟩
  have HQ := hid hq
  have HT := hid ht
  rw [hq] at hl hc1 hi
  rw [hq]
  have HI := hid hi
  have HE : Hid (encList ess = 3 :: (beL 4 q ++ ess.flatten)) := hid (by rw [encList, hq])
  have hwr : IntKind.u64.wrap (q : Int) = (q : Int) := by rw [IntKind.wrap_u64]; omega
  have HNum := hid (fun w' => renc_four q w' (by omega) (by omega))
  clear hq hi hf hsh ht
  go_enter Tryz.func149, Tryz.ntmps149
  go_wp2_with fail
  refine (HNum.out _).mono ?_
  rintro e w2 ⟨v2, rfl, hO2, hU2⟩
  have hX2 : Blk w2 w.heap.size 152 #[.int .i64 3, .int .i64 0, nilS, .slice a q cap] := ((Blk.new rfl rfl).alloc _).up hU2
  have hO1 := (own_one (w := w.alloc (.cells #[.int .i64 3, .int .i64 0, nilS, .slice a q cap] 152)) (g := w.heap.size + 1) (base := w.heap.size + 1) 3 (by simp) (by omega)).up hU2
  have hU2 := (((Up.refl w).alloc _).alloc _).trans hU2
  have l2 := hX2.lt
  go_wp2_with (at_builtin; refine wp_app infoU8 Tryz.underlying51 (by omega) rfl _ _ rfl (w.heap.size + 1) rfl rfl hO1 hO2.seq (by simp [beL_length]) (by omega) ?_; intro v3 w3 hO3 hg3; have hU3 := hU2.own hO1 hg3 (by omega); have hX3 := hX2.below (below_own hO1 hg3 (by omega)) (by omega))
  obtain ⟨g, hg⟩ : ∃ g, w.heap.size = g := ⟨_, rfl⟩
  have HG := hid hg
  have HO3 : Hid (OwnS 5 .u8 w3 (g + 1) v3 (3 :: (beL 4 q ++ (ess.take 0).flatten))) := hid (by rw [← hg]; simpa using hO3)
  rw [hg] at hX3
  rw [hg]
  have HX3 := hid hX3
  have HU3 := hid hU3
  clear hO3 hX3 hU3 hg hg3 hO1 hO2 hX2 hU2 l2
  go_loopw [3, 4] (fun vp vi wr => ∃ i : Nat, i ≤ q ∧ vi = .int .i64 i ∧ Hid (OwnS 5 .u8 wr (g + 1) vp (3 :: (beL 4 q ++ (ess.take i).flatten))) ∧ Hid (Blk wr g 152 #[.int .i64 3, .int .i64 0, nilS, .slice a q cap]) ∧ Hid (Up w wr)) (fun _ vi _ => q - (intOf vi).toNat)
  case atStart => exact ⟨0, by omega, rfl, HO3, HX3, HU3⟩
  case round =>
    clear HO3 HX3 HU3
    obtain ⟨i, hiq, rfl, HO, HX, HU⟩ := hrel
    have q1 := HX.out.val (i := 3) rfl
    by_cases hlt : i < q
    · obtain ⟨b, off, k, n, vb, vl, rfl, hc, hr⟩ := HI.out i hlt
      obtain ⟨c0, c1, c2, c3⟩ := hc.up HU.out
      obtain ⟨⟨ba, bn, bc, rfl⟩, la, ln, lc, rfl⟩ := HSh.out _ _ _ _ _ hr
      have hle := flatten_at_le (ess := ess) (i := i) (by rw [HQ.out]; exact hlt)
      have HC := hid (fun w' hU => HF.out k n _ _ _ hr (by have := HT.out; omega) w' hU)
      have HN : Hid (3 :: (beL 4 q ++ (ess.take (i + 1)).flatten) = 3 :: (beL 4 q ++ (ess.take i).flatten) ++ ess.getD i []) := hid (by rw [flatten_take (by rw [HQ.out]; exact hlt)]; simp)
      have HLe : Hid ((3 :: (beL 4 q ++ (ess.take i).flatten)).length + (ess.getD i []).length ≤ 17592186044416) := hid (by have := HT.out; simp [beL_length] at *; omega)
      have hz := HX.out.lt
      generalize ess.getD i [] = es at *
      generalize 3 :: (beL 4 q ++ (ess.take i).flatten) = ys at *
      have z1 : (i : Int) < q := by omega
      have z2 : i * 4 + 4 ≤ cap * 4 := by omega
      clear hc hr hle
      go_wp2_with fail
      refine (HC.out _ HU.out).mono ?_
      rintro e w4 ⟨v4, rfl, hO4, hU4⟩
      have hw4 : g + 1 ≤ w4.heap.size := by have := hU4.size; omega
      go_wp2_with (at_builtin; refine wp_app infoU8 Tryz.underlying51 (by omega) rfl _ _ rfl (g + 1) rfl rfl (HO.out.up hU4) hO4.seq HLe.out hw4 ?_; intro v5 w5 hO5 hg5)
      have HU5 := hid ((HU.out.trans hU4).own (HO.out.up hU4) hg5 (by have := HG.out; omega))
      have HX5 := hid ((HX.out.up hU4).below (below_own (HO.out.up hU4) hg5 hw4) (by omega))
      rw [← HN.out] at hO5
      have HO5 := hid hO5
      clear hO5 hg5 hO4 hU4 c0 c1 c2 c3
      go_roundw
      case rel => exact ⟨i + 1, by omega, by go_num, HO5, HX5, HU5⟩
      case measure => simp [intOf]; omega
    · have HE2 : Hid (OwnS 5 .u8 wr (g + 1) u3 (encList ess)) := hid (by
        rw [HE.out]
        have := HO.out
        rw [List.take_of_length_le (by rw [HQ.out]; omega)] at this
        exact this)
      have z1 : decide ((i : Int) < q) = false := by simpa using hlt
      go_wp2
      go_ret
      exact ⟨_, rfl, by rw [HG.out]; exact HE2.out.mono (by omega), HU.out⟩

theorem renc_bytes (b : Value) (bs : List Int) (w : World) (hs : SeqAt .u8 w b bs) (hl : bs.length ≤ 1000000) :
    Calls Tryz.prog 149 #[itm 2 0 b nilS] w (REnc (encBytes bs) w) := by
  have HS := hid hs
  obtain ⟨pb, cb, rfl, _, _⟩ := hs.shape
  obtain ⟨nb, hnb⟩ : ∃ nb, bs.length = nb := ⟨_, rfl⟩
  have HNb := hid hnb
  rw [hnb] at HS hl
  rw [hnb]
  have HE : Hid (encBytes bs = [2] ++ beL 4 nb ++ bs) := hid (by rw [encBytes, hnb]; simp)
  have HNum := hid (fun w' => renc_four nb w' (by omega) (by omega))
  have hwr : IntKind.u64.wrap (nb : Int) = (nb : Int) := by rw [IntKind.wrap_u64]; omega
  clear hs hnb
  go_enter Tryz.func149, Tryz.ntmps149
  go_wp2_with fail
  obtain ⟨g, hg⟩ : ∃ g, w.heap.size = g := ⟨_, rfl⟩
  have HG := hid hg
  obtain ⟨w1, hw1⟩ : ∃ w1, w.alloc (.cells #[.int .i64 2, .int .i64 0, .slice pb nb cb, nilS] 152) = w1 := ⟨_, rfl⟩
  have HX : Hid (Blk w1 g 152 #[.int .i64 2, .int .i64 0, .slice pb nb cb, nilS]) := hid (by rw [← hw1]; exact Blk.new hg rfl)
  have HU1 : Hid (Up w w1) := hid (by rw [← hw1]; exact (Up.refl w).alloc _)
  rw [hg]
  rw [hw1]
  clear hw1 hg
  have hS0 : w1.cell? ⟨g, 2, none⟩ = some (.slice pb nb cb) := HX.out.val (i := 2) rfl
  have hsz := HX.out.lt
  have HL1 : Hid (([2] : List Int).length + (beL 4 nb).length ≤ 17592186044416) := hid (by rw [beL_length]; decide)
  have HL2 : Hid ((([2] : List Int) ++ beL 4 nb).length + bs.length ≤ 17592186044416) := hid (by rw [List.length_append, beL_length, HNb.out]; show 1 + 4 + nb ≤ _; omega)
  go_region_held3 (fun w' => w'.cell? ⟨g, 2, none⟩ = some (.slice pb nb cb)) (first | assumption | exact cup hU4 (HX.out.val (i := 2) rfl) | exact cup hU3 (HX.out.val (i := 2) rfl) | exact cup (hD2.alloc _) (HX.out.val (i := 2) rfl) | exact cup hD2 (HX.out.val (i := 2) rfl) | exact cup (Up.refl _).drew (by assumption) | exact cup ((Up.refl _).alloc _) (by assumption) | exact cup ((Up.refl w1).alloc _).drew (HX.out.val (i := 2) rfl) | fail "keep") (first
    | (go_at_call 200; refine (HNum.out _).mono ?_; rintro e w2 ⟨v2, rfl, hO2, hU2⟩; have hD2 := Up.trans (by first | exact ((Up.refl w1).alloc (.cells #[.int .u8 2] 5)).drew | exact (Up.refl w1).drew.alloc (.cells #[.int .u8 2] 5) | exact (Up.refl w1).alloc (.cells #[.int .u8 2] 5) | exact (Up.refl w1).drew | exact Up.refl w1 : Up w1 _) hU2; have hz2 := hD2.size)
    | (refine step_app infoU8 Tryz.underlying51 (by omega) (by rfl) _ _ (by rfl) w1.heap.size (by rfl) (by rfl) ((own_one (w := w1) (base := w1.heap.size) 2 rfl (Nat.le_refl _)).up ((Up.refl _).drew.trans hU2)) hO2.seq HL1.out hz2 ?_; intro v3 w3 hO3 hg3; have hU3 := hD2.own ((own_one (w := w1) (base := w1.heap.size) 2 rfl (Nat.le_refl _)).up ((Up.refl _).drew.trans hU2)) hg3 (Nat.le_refl _); have hz3 := hU3.size)
    | (refine step_app infoU8 Tryz.underlying51 (by omega) (by rfl) _ _ (by rfl) w1.heap.size (by rfl) (by rfl) (own_one (w := w2) (base := w1.heap.size) 2 rfl hz2) (hO2.seq.up ((Up.refl w2).alloc _)) HL1.out (hD2.alloc _).size ?_; intro v3 w3 hO3 hg3; have hU3 := (hD2.alloc (.cells #[.int .u8 2] 5)).own (own_one (w := w2) (base := w1.heap.size) 2 rfl hz2) hg3 (Nat.le_refl _); have hz3 := hU3.size)
    | (refine step_app infoU8 Tryz.underlying51 (by omega) (by rfl) _ _ (by rfl) w1.heap.size (by rfl) (by rfl) hO3 (HS.out.up (HU1.out.trans hU3)) HL2.out hz3 ?_; intro v4 w4 hO4 hg4; have hU4 := hU3.own hO3 hg4 (Nat.le_refl _))
    | fail "arm")
  all_goals
    rw [← HE.out] at hO4
    try go_wp2
    go_ret
    exact ⟨_, rfl, hO4.mono (by have := HG.out; omega), HU1.out.trans hU4⟩

theorem renc_ok : ∀ (d : Nat) (k n : Int) (b l : Value) (es : List Int) (w : World), ItmAt w d k n b l es → es.length ≤ 1000000000 → Calls Tryz.prog 149 #[itm k n b l] w (REnc es w)
  | 0, _, n, _, _, _, w, .inl ⟨rfl, rfl, rfl, rfl⟩, _ => renc_int n w
  | 0, _, _, b, _, _, w, .inr ⟨rfl, rfl, rfl, bs, h1, h2, _, rfl⟩, _ => renc_bytes b bs w h1 h2
  | _ + 1, _, n, _, _, _, w, .inl (.inl ⟨rfl, rfl, rfl, rfl⟩), _ => renc_int n w
  | _ + 1, _, _, b, _, _, w, .inl (.inr ⟨rfl, rfl, rfl, bs, h1, h2, _, rfl⟩), _ => renc_bytes b bs w h1 h2
  | d + 1, _, _, _, l, _, w, .inr ⟨rfl, rfl, rfl, ess, h4, h5, rfl⟩, hl => renc_list l ess _ w h5 h4 (by rw [encList_length] at hl; omega) (fun _ _ _ _ _ h => itm_shape h) fun k n b l es h he w' hU => renc_ok d k n b l es w' (h.up hU) he
end Go.Proofs.YtdlcmpbpdbpanaaGreatDoor
namespace Go.Proofs.YtdlcmpbpdbpanaaGreatDoor
open Go.RowKit Go.Sp
set_option maxHeartbeats 4000000
set_option maxRecDepth 20000

theorem rInteger_any (n : Int) (w : World) : Calls Tryz.prog 146 #[.int .i64 n] w fun e w' => e = .returned (itm 1 n nilS nilS) ∧ Up w w' := by
  go_enter Tryz.func146, Tryz.ntmps146
  go_wp2
  exact bodyPost_ret (v := itm 1 n nilS nilS) (by simp [results, Tryz.results146, go_sem]) rfl ⟨rfl, (Up.refl w).alloc _⟩

/-- The reference's six numbers of bases, in a block of their own. -/
theorem rNumbers_any (P Q G A B C : Int) (w : World) :
    Calls Tryz.prog 145 #[bas P Q G A B C] w fun e w' => ∃ g, e = .returned (.slice (some ⟨g, 0, none⟩) 6 6) ∧ Blk w' g 3 #[.int .i64 P, .int .i64 Q, .int .i64 G, .int .i64 A, .int .i64 B, .int .i64 C] ∧ Up w w' := by
  go_enter Tryz.func145, Tryz.ntmps145
  go_wp2
  go_ret
  exact ⟨_, rfl, Blk.new (by simp) rfl, ((Up.refl w).alloc _).alloc _⟩
end Go.Proofs.YtdlcmpbpdbpanaaGreatDoor
