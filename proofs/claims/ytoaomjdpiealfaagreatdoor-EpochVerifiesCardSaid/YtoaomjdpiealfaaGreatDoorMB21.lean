/- The reference's encoding: integers, bytes and lists. The reference's challenge of a coin. The reference's challenge of a coin: the walk. Package epoch: Make, at the example of the chapter. The examples of layer 30. -/
import Derived.Test.YtoaomjdpiealfaaGreatDoorMB20
import Derived.Test.YtoaomjdpiealfaaGreatDoorMB9
import Derived.Test.YtoaomjdpiealfaaGreatDoorMB15
import Derived.Test.YtoaomjdpiealfaaGreatDoorMB19
import Derived.Test.YtoaomjdpiealfaaGreatDoorMB16
import Derived.Test.YtoaomjdpiealfaaGreatDoorMB18
namespace Go.Proofs.YtoaomjdpiealfaaGreatDoor
open Go.RowKit Go.Sp
set_option maxHeartbeats 4000000
set_option maxRecDepth 20000

theorem own_one {w : World} {base g : Nat} (x : Int) (hg : w.heap.size = g) (hb : base ≤ g) : OwnS 5 .u8 (w.alloc (.cells #[.int .u8 x] 5)) base (.slice (some ⟨g, 0, none⟩) 1 1) [x] := by
  have h : Blk (w.alloc (.cells #[.int .u8 x] 5)) g 5 (arrK .u8 (fun _ => x) 1) := Blk.new hg (by kernel_rfl)
  exact h.own hb (by omega)

/-- What the reference's Encode returns. -/
def REnc (es : List Int) (w : World) (e : Ending) (w' : World) : Prop := ∃ v, e = .returned v ∧ OwnS 5 .u8 w' w.heap.size v es ∧ Up w w'

theorem renc_int (n : Int) (w : World) : Calls Tryz.prog 117 #[itm 1 n nilS nilS] w (REnc (encInt n) w) := by
  have hr : 0 ≤ IntKind.u64.wrap n ∧ IntKind.u64.wrap n < 18446744073709551616 := by rw [IntKind.wrap_u64]; omega
  have HNum := hid (fun w' => renc_eight (IntKind.u64.wrap n) w' hr.1 (by omega))
  have HE : Hid (encInt n = 1 :: beL 8 (IntKind.u64.wrap n)) := hid rfl
  clear hr
  go_enter Tryz.func117, Tryz.ntmps117
  go_wp2_with fail
  generalize IntKind.u64.wrap n = N at *
  refine (HNum.out _).mono ?_
  rintro e w2 ⟨v2, rfl, hO2, hU2⟩
  have hO1 := (own_one (w := w.alloc (.cells #[.int .i64 1, .int .i64 n, nilS, nilS] 142)) (g := w.heap.size + 1) (base := w.heap.size) 1 (by simp) (by omega)).up hU2
  have hU2 := (((Up.refl w).alloc _).alloc _).trans hU2
  go_wp2_with (at_builtin; refine wp_app infoU8 Tryz.underlying25 (by omega) rfl _ _ rfl w.heap.size rfl rfl hO1 hO2.seq (by simp [beL_length]) hU2.size ?_; intro v3 w3 hO3 hg3; have hU3 := hU2.own hO1 hg3 (Nat.le_refl _))
  go_ret
  exact ⟨_, rfl, by rw [HE.out]; exact hO3, hU3⟩

theorem renc_list (l : Value) (ess : List (List Int)) (R : Int → Int → Value → Value → List Int → Prop) (w : World) (hr : ItmRow R w l ess) (hl : ess.length ≤ 1000) (ht : ess.flatten.length ≤ 1000000000)
    (hsh : ∀ k n b l es, R k n b l es → (∃ a m c, b = .slice a m c) ∧ ∃ a m c, l = .slice a m c)
    (hf : ∀ k n b l es, R k n b l es → es.length ≤ 1000000000 → ∀ w', Up w w' → Calls Tryz.prog 117 #[itm k n b l] w' (REnc es w')) :
    Calls Tryz.prog 117 #[itm 3 0 nilS l] w (REnc (encList ess) w) := by
  have HF := hid hf
  have HSh := hid hsh
  obtain ⟨a, cap, rfl, hc1, hc2, _, hi⟩ := hr
  obtain ⟨q, hq⟩ : ∃ q, ess.length = q := ⟨_, rfl⟩
  have HQ := hid hq
  have HT := hid ht
  rw [hq] at hl hc1 hi
  rw [hq]
  have HI := hid hi
  have HE : Hid (encList ess = 3 :: (beL 4 q ++ ess.flatten)) := hid (by rw [encList, hq])
  have hwr : IntKind.u64.wrap (q : Int) = (q : Int) := by rw [IntKind.wrap_u64]; omega
  have HNum := hid (fun w' => renc_four q w' (by omega) (by omega))
  clear hq hi hf hsh ht
  go_enter Tryz.func117, Tryz.ntmps117
  go_wp2_with fail
  refine (HNum.out _).mono ?_
  rintro e w2 ⟨v2, rfl, hO2, hU2⟩
  have hX2 : Blk w2 w.heap.size 142 #[.int .i64 3, .int .i64 0, nilS, .slice a q cap] := ((Blk.new rfl rfl).alloc _).up hU2
  have hO1 := (own_one (w := w.alloc (.cells #[.int .i64 3, .int .i64 0, nilS, .slice a q cap] 142)) (g := w.heap.size + 1) (base := w.heap.size + 1) 3 (by simp) (by omega)).up hU2
  have hU2 := (((Up.refl w).alloc _).alloc _).trans hU2
  have l2 := hX2.lt
  go_wp2_with (at_builtin; refine wp_app infoU8 Tryz.underlying25 (by omega) rfl _ _ rfl (w.heap.size + 1) rfl rfl hO1 hO2.seq (by simp [beL_length]) (by omega) ?_; intro v3 w3 hO3 hg3; have hU3 := hU2.own hO1 hg3 (by omega); have hX3 := hX2.below (below_own hO1 hg3 (by omega)) (by omega))
  obtain ⟨g, hg⟩ : ∃ g, w.heap.size = g := ⟨_, rfl⟩
  have HG := hid hg
  have HO3 : Hid (OwnS 5 .u8 w3 (g + 1) v3 (3 :: (beL 4 q ++ (ess.take 0).flatten))) := hid (by rw [← hg]; simpa using hO3)
  rw [hg] at hX3
  rw [hg]
  have HX3 := hid hX3
  have HU3 := hid hU3
  clear hO3 hX3 hU3 hg hg3 hO1 hO2 hX2 hU2 l2
  go_loopw [3, 4] (fun vp vi wr => ∃ i : Nat, i ≤ q ∧ vi = .int .i64 i ∧ Hid (OwnS 5 .u8 wr (g + 1) vp (3 :: (beL 4 q ++ (ess.take i).flatten))) ∧ Hid (Blk wr g 142 #[.int .i64 3, .int .i64 0, nilS, .slice a q cap]) ∧ Hid (Up w wr)) (fun _ vi _ => q - (intOf vi).toNat)
  case atStart => exact ⟨0, by omega, rfl, HO3, HX3, HU3⟩
  case round =>
    clear HO3 HX3 HU3
    obtain ⟨i, hiq, rfl, HO, HX, HU⟩ := hrel
    have q1 := HX.out.val (i := 3) rfl
    by_cases hlt : i < q
    · obtain ⟨b, off, k, n, vb, vl, rfl, hc, hr⟩ := HI.out i hlt
      obtain ⟨c0, c1, c2, c3⟩ := hc.up HU.out
      obtain ⟨⟨ba, bn, bc, rfl⟩, la, ln, lc, rfl⟩ := HSh.out _ _ _ _ _ hr
      have hle := flatten_at_le (ess := ess) (i := i) (by rw [HQ.out]; exact hlt)
      have HC := hid (fun w' hU => HF.out k n _ _ _ hr (by have := HT.out; omega) w' hU)
      have HN : Hid (3 :: (beL 4 q ++ (ess.take (i + 1)).flatten) = 3 :: (beL 4 q ++ (ess.take i).flatten) ++ ess.getD i []) := hid (by rw [flatten_take (by rw [HQ.out]; exact hlt)]; simp)
      have HLe : Hid ((3 :: (beL 4 q ++ (ess.take i).flatten)).length + (ess.getD i []).length ≤ 17592186044416) := hid (by have := HT.out; simp [beL_length] at *; omega)
      have hz := HX.out.lt
      generalize ess.getD i [] = es at *
      generalize 3 :: (beL 4 q ++ (ess.take i).flatten) = ys at *
      have z1 : (i : Int) < q := by omega
      have z2 : i * 4 + 4 ≤ cap * 4 := by omega
      clear hc hr hle
      go_wp2_with fail
      refine (HC.out _ HU.out).mono ?_
      rintro e w4 ⟨v4, rfl, hO4, hU4⟩
      have hw4 : g + 1 ≤ w4.heap.size := by have := hU4.size; omega
      go_wp2_with (at_builtin; refine wp_app infoU8 Tryz.underlying25 (by omega) rfl _ _ rfl (g + 1) rfl rfl (HO.out.up hU4) hO4.seq HLe.out hw4 ?_; intro v5 w5 hO5 hg5)
      have HU5 := hid ((HU.out.trans hU4).own (HO.out.up hU4) hg5 (by have := HG.out; omega))
      have HX5 := hid ((HX.out.up hU4).below (below_own (HO.out.up hU4) hg5 hw4) (by omega))
      rw [← HN.out] at hO5
      have HO5 := hid hO5
      clear hO5 hg5 hO4 hU4 c0 c1 c2 c3
      go_roundw
      case rel => exact ⟨i + 1, by omega, by go_num, HO5, HX5, HU5⟩
      case measure => simp [intOf]; omega
    · have HE2 : Hid (OwnS 5 .u8 wr (g + 1) u3 (encList ess)) := hid (by
        rw [HE.out]
        have := HO.out
        rw [List.take_of_length_le (by rw [HQ.out]; omega)] at this
        exact this)
      have z1 : decide ((i : Int) < q) = false := by simpa using hlt
      go_wp2
      go_ret
      exact ⟨_, rfl, by rw [HG.out]; exact HE2.out.mono (by omega), HU.out⟩

theorem renc_bytes (b : Value) (bs : List Int) (w : World) (hs : SeqAt .u8 w b bs) (hl : bs.length ≤ 1000000) :
    Calls Tryz.prog 117 #[itm 2 0 b nilS] w (REnc (encBytes bs) w) := by
  have HS := hid hs
  obtain ⟨pb, cb, rfl, _, _⟩ := hs.shape
  obtain ⟨nb, hnb⟩ : ∃ nb, bs.length = nb := ⟨_, rfl⟩
  have HNb := hid hnb
  rw [hnb] at HS hl
  rw [hnb]
  have HE : Hid (encBytes bs = [2] ++ beL 4 nb ++ bs) := hid (by rw [encBytes, hnb]; simp)
  have HNum := hid (fun w' => renc_four nb w' (by omega) (by omega))
  have hwr : IntKind.u64.wrap (nb : Int) = (nb : Int) := by rw [IntKind.wrap_u64]; omega
  clear hs hnb
  go_enter Tryz.func117, Tryz.ntmps117
  go_wp2_with fail
  obtain ⟨g, hg⟩ : ∃ g, w.heap.size = g := ⟨_, rfl⟩
  have HG := hid hg
  obtain ⟨w1, hw1⟩ : ∃ w1, w.alloc (.cells #[.int .i64 2, .int .i64 0, .slice pb nb cb, nilS] 142) = w1 := ⟨_, rfl⟩
  have HX : Hid (Blk w1 g 142 #[.int .i64 2, .int .i64 0, .slice pb nb cb, nilS]) := hid (by rw [← hw1]; exact Blk.new hg rfl)
  have HU1 : Hid (Up w w1) := hid (by rw [← hw1]; exact (Up.refl w).alloc _)
  rw [hg]
  rw [hw1]
  clear hw1 hg
  have hS0 : w1.cell? ⟨g, 2, none⟩ = some (.slice pb nb cb) := HX.out.val (i := 2) rfl
  have hsz := HX.out.lt
  have HL1 : Hid (([2] : List Int).length + (beL 4 nb).length ≤ 17592186044416) := hid (by rw [beL_length]; decide)
  have HL2 : Hid ((([2] : List Int) ++ beL 4 nb).length + bs.length ≤ 17592186044416) := hid (by rw [List.length_append, beL_length, HNb.out]; show 1 + 4 + nb ≤ _; omega)
  go_region_held3 (fun w' => w'.cell? ⟨g, 2, none⟩ = some (.slice pb nb cb)) (first | assumption | exact cup hU4 (HX.out.val (i := 2) rfl) | exact cup hU3 (HX.out.val (i := 2) rfl) | exact cup (hD2.alloc _) (HX.out.val (i := 2) rfl) | exact cup hD2 (HX.out.val (i := 2) rfl) | exact cup (Up.refl _).drew (by assumption) | exact cup ((Up.refl _).alloc _) (by assumption) | exact cup ((Up.refl w1).alloc _).drew (HX.out.val (i := 2) rfl) | fail "keep") (first
    | (go_at_call 169; refine (HNum.out _).mono ?_; rintro e w2 ⟨v2, rfl, hO2, hU2⟩; have hD2 := Up.trans (by first | exact ((Up.refl w1).alloc (.cells #[.int .u8 2] 5)).drew | exact (Up.refl w1).drew.alloc (.cells #[.int .u8 2] 5) | exact (Up.refl w1).alloc (.cells #[.int .u8 2] 5) | exact (Up.refl w1).drew | exact Up.refl w1 : Up w1 _) hU2; have hz2 := hD2.size)
    | (refine step_app infoU8 Tryz.underlying25 (by omega) (by rfl) _ _ (by rfl) w1.heap.size (by rfl) (by rfl) ((own_one (w := w1) (base := w1.heap.size) 2 rfl (Nat.le_refl _)).up ((Up.refl _).drew.trans hU2)) hO2.seq HL1.out hz2 ?_; intro v3 w3 hO3 hg3; have hU3 := hD2.own ((own_one (w := w1) (base := w1.heap.size) 2 rfl (Nat.le_refl _)).up ((Up.refl _).drew.trans hU2)) hg3 (Nat.le_refl _); have hz3 := hU3.size)
    | (refine step_app infoU8 Tryz.underlying25 (by omega) (by rfl) _ _ (by rfl) w1.heap.size (by rfl) (by rfl) (own_one (w := w2) (base := w1.heap.size) 2 rfl hz2) (hO2.seq.up ((Up.refl w2).alloc _)) HL1.out (hD2.alloc _).size ?_; intro v3 w3 hO3 hg3; have hU3 := (hD2.alloc (.cells #[.int .u8 2] 5)).own (own_one (w := w2) (base := w1.heap.size) 2 rfl hz2) hg3 (Nat.le_refl _); have hz3 := hU3.size)
    | (refine step_app infoU8 Tryz.underlying25 (by omega) (by rfl) _ _ (by rfl) w1.heap.size (by rfl) (by rfl) hO3 (HS.out.up (HU1.out.trans hU3)) HL2.out hz3 ?_; intro v4 w4 hO4 hg4; have hU4 := hU3.own hO3 hg4 (Nat.le_refl _))
    | fail "arm")
  all_goals
    rw [← HE.out] at hO4
    try go_wp2
    go_ret
    exact ⟨_, rfl, hO4.mono (by have := HG.out; omega), HU1.out.trans hU4⟩

theorem renc_ok : ∀ (d : Nat) (k n : Int) (b l : Value) (es : List Int) (w : World), ItmAt w d k n b l es → es.length ≤ 1000000000 → Calls Tryz.prog 117 #[itm k n b l] w (REnc es w)
  | 0, _, n, _, _, _, w, .inl ⟨rfl, rfl, rfl, rfl⟩, _ => renc_int n w
  | 0, _, _, b, _, _, w, .inr ⟨rfl, rfl, rfl, bs, h1, h2, _, rfl⟩, _ => renc_bytes b bs w h1 h2
  | _ + 1, _, n, _, _, _, w, .inl (.inl ⟨rfl, rfl, rfl, rfl⟩), _ => renc_int n w
  | _ + 1, _, _, b, _, _, w, .inl (.inr ⟨rfl, rfl, rfl, bs, h1, h2, _, rfl⟩), _ => renc_bytes b bs w h1 h2
  | d + 1, _, _, _, l, _, w, .inr ⟨rfl, rfl, rfl, ess, h4, h5, rfl⟩, hl => renc_list l ess _ w h5 h4 (by rw [encList_length] at hl; omega) (fun _ _ _ _ _ h => itm_shape h) fun k n b l es h he w' hU => renc_ok d k n b l es w' (h.up hU) he
end Go.Proofs.YtoaomjdpiealfaaGreatDoor
namespace Go.Proofs.YtoaomjdpiealfaaGreatDoor
open Go.RowKit Go.Sp
set_option maxHeartbeats 4000000
set_option maxRecDepth 20000

theorem rInteger_any (n : Int) (w : World) : Calls Tryz.prog 114 #[.int .i64 n] w fun e w' => e = .returned (itm 1 n nilS nilS) ∧ Up w w' := by
  go_enter Tryz.func114, Tryz.ntmps114
  go_wp2
  exact bodyPost_ret (v := itm 1 n nilS nilS) (by simp [results, Tryz.results114, go_sem]) rfl ⟨rfl, (Up.refl w).alloc _⟩

/-- The reference's six numbers of bases, in a block of their own. -/
theorem rNumbers_any (P Q G A B C : Int) (w : World) :
    Calls Tryz.prog 113 #[bas P Q G A B C] w fun e w' => ∃ g, e = .returned (.slice (some ⟨g, 0, none⟩) 6 6) ∧ Blk w' g 3 #[.int .i64 P, .int .i64 Q, .int .i64 G, .int .i64 A, .int .i64 B, .int .i64 C] ∧ Up w w' := by
  go_enter Tryz.func113, Tryz.ntmps113
  go_wp2
  go_ret
  exact ⟨_, rfl, Blk.new (by simp) rfl, ((Up.refl w).alloc _).alloc _⟩
end Go.Proofs.YtoaomjdpiealfaaGreatDoor
namespace Go.Proofs.YtoaomjdpiealfaaGreatDoor
open Go.RowKit Go.Sp
set_option maxHeartbeats 4000000
set_option maxRecDepth 20000

theorem ownsRow_set {w : World} {base e size n : Nat} {v : Value} {us : List Value} (h : w.ownsRow base e size v n us) {a : Addr} (ha : a.block < base) (x : Value) : (w.setCell a x).ownsRow base e size v n us := by
  refine ⟨h.1, ?_⟩
  rcases h.2 with hn | ⟨g, cap, cur, rfl, hb, hg, rest⟩
  · exact .inl hn
  · exact .inr ⟨g, cap, cur, rfl, hb, by rw [Below.heap_setCell w a x g (by omega)]; exact hg, rest⟩
theorem OwnS.set {e : TypeId} {k : IntKind} {w : World} {base : Nat} {v : Value} {xs : List Int} (h : OwnS e k w base v xs) {a : Addr} (ha : a.block < base) (x : Value) : OwnS e k (w.setCell a x) base v xs := ownsRow_set h ha x
/-- The items' block is there. -/
theorem OwnQ.blockLt {e : TypeId} {w : World} {base : Nat} {v : Value} {qs : List Quad} (h : OwnQ e w base v qs) (j : Nat) (hj : v.ownBlock = some j) : j < w.heap.size := by
  rcases h.2 with ⟨hv, _⟩ | ⟨g, cap, cur, rfl, hb, hg, _⟩
  · rw [hv] at hj; cases hj
  · simp [Value.ownBlock] at hj
    subst hj
    exact (Array.getElem?_eq_some_iff.1 hg).1

/-- What the first loop's region reads. -/
def RcS (L gn i : Nat) (ad : Option Addr) (cp : Nat) (ns : Array Value) (w : World) : Prop :=
  Blk w L 142 #[.int .i64 3, .int .i64 0, nilS, .slice ad i cp] ∧ Blk w gn 3 ns
theorem RcS.up {L gn i : Nat} {ad : Option Addr} {cp : Nat} {ns : Array Value} {w w' : World} (h : RcS L gn i ad cp ns w) (hU : Up w w') : RcS L gn i ad cp ns w' := ⟨h.1.up hU, h.2.up hU⟩
theorem RcS.below {L gn i B : Nat} {ad : Option Addr} {cp : Nat} {ns : Array Value} {w w' : World} (h : RcS L gn i ad cp ns w) (hb : Below B w w') (h1 : L < B) (h2 : gn < B) : RcS L gn i ad cp ns w' := ⟨h.1.below hb h1, h.2.below hb h2⟩
theorem RcS.cells {L gn i : Nat} {ad : Option Addr} {cp : Nat} {ns : Array Value} {w : World} (h : RcS L gn i ad cp ns w) : w.cell? ⟨L, 3, none⟩ = some (.slice ad i cp) ∧ w.cell? ⟨gn, i, none⟩ = ns[i]? := ⟨h.1.val rfl, h.2.read i⟩

/-- What the second loop's region reads. -/
def RbS (b o i : Nat) (ad : Option Addr) (cp : Nat) (cs : Array Value) (w : World) : Prop :=
  Blk w b 142 #[.int .i64 2, .int .i64 0, .slice ad i cp, nilS] ∧ Blk w o 55 cs
theorem RbS.up {b o i : Nat} {ad : Option Addr} {cp : Nat} {cs : Array Value} {w w' : World} (h : RbS b o i ad cp cs w) (hU : Up w w') : RbS b o i ad cp cs w' := ⟨h.1.up hU, h.2.up hU⟩
theorem RbS.below {b o i B : Nat} {ad : Option Addr} {cp : Nat} {cs : Array Value} {w w' : World} (h : RbS b o i ad cp cs w) (hb : Below B w w') (h1 : b < B) (h2 : o < B) : RbS b o i ad cp cs w' := ⟨h.1.below hb h1, h.2.below hb h2⟩
theorem RbS.cells {b o i : Nat} {ad : Option Addr} {cp : Nat} {cs : Array Value} {w : World} (h : RbS b o i ad cp cs w) : w.cell? ⟨b, 2, none⟩ = some (.slice ad i cp) ∧ w.cell? ⟨o, i, none⟩ = cs[i]? := ⟨h.1.val rfl, h.2.read i⟩

/-- What the last appends' region reads. -/
def RdS (L b s : Nat) (ad : Option Addr) (cp : Nat) (vb : Value) (z x y r : Int) (w : World) : Prop :=
  Blk w L 142 #[.int .i64 3, .int .i64 0, nilS, .slice ad 6 cp] ∧ Blk w b 142 #[.int .i64 2, .int .i64 0, vb, nilS] ∧ Blk w s 57 #[.int .i64 z, .int .i64 x, .int .i64 y, .int .i64 r]
theorem RdS.up {L b s : Nat} {ad : Option Addr} {cp : Nat} {vb : Value} {z x y r : Int} {w w' : World} (h : RdS L b s ad cp vb z x y r w) (hU : Up w w') : RdS L b s ad cp vb z x y r w' := ⟨h.1.up hU, h.2.1.up hU, h.2.2.up hU⟩
theorem RdS.cells {L b s : Nat} {ad : Option Addr} {cp : Nat} {vb : Value} {z x y r : Int} {w : World} (h : RdS L b s ad cp vb z x y r w) : w.cell? ⟨L, 3, none⟩ = some (.slice ad 6 cp) ∧ w.cell? ⟨b, 0, none⟩ = some (.int .i64 2) ∧ w.cell? ⟨b, 1, none⟩ = some (.int .i64 0) ∧ w.cell? ⟨b, 2, none⟩ = some vb ∧ w.cell? ⟨b, 3, none⟩ = some nilS ∧ w.cell? ⟨s, 0, none⟩ = some (.int .i64 z) ∧ w.cell? ⟨s, 1, none⟩ = some (.int .i64 x) ∧ w.cell? ⟨s, 2, none⟩ = some (.int .i64 y) :=
  ⟨h.1.val rfl, h.2.1.val rfl, h.2.1.val rfl, h.2.1.val rfl, h.2.1.val rfl, h.2.2.val rfl, h.2.2.val rfl, h.2.2.val rfl⟩

/-- What the last region reads. -/
def ReS (L o : Nat) (v : Value) (P Q G A B C : Int) (w : World) : Prop := Blk w L 142 #[.int .i64 3, .int .i64 0, nilS, v] ∧ BasAt w o P Q G A B C
theorem ReS.up {L o : Nat} {v : Value} {P Q G A B C : Int} {w w' : World} (h : ReS L o v P Q G A B C w) (hU : Up w w') : ReS L o v P Q G A B C w' := ⟨h.1.up hU, h.2.up hU⟩
theorem ReS.cells {L o : Nat} {v : Value} {P Q G A B C : Int} {w : World} (h : ReS L o v P Q G A B C w) : w.cell? ⟨L, 0, none⟩ = some (.int .i64 3) ∧ w.cell? ⟨L, 1, none⟩ = some (.int .i64 0) ∧ w.cell? ⟨L, 2, none⟩ = some nilS ∧ w.cell? ⟨L, 3, none⟩ = some v ∧ w.cell? ⟨o, 1, none⟩ = some (.int .i64 Q) :=
  ⟨h.1.val rfl, h.1.val rfl, h.1.val rfl, h.1.val rfl, h.2.1.2.1⟩

/-- The five items behind the six. -/
def rcQ (vb : Value) (p z x y : Int) : List Quad := [quadI p, ⟨2, 0, vb, nilS⟩, quadI z, quadI x, quadI y]
theorem rcQ_cells {w : World} {g : Nat} {vb : Value} {p z x y : Int} {t : TypeId} (hg : w.heap.size = g) : ∀ i (h : i < (rcQ vb p z x y).length), ItmCells (w.alloc (.cells #[.int .i64 1, .int .i64 p, nilS, nilS, .int .i64 2, .int .i64 0, vb, nilS, .int .i64 1, .int .i64 z, nilS, nilS, .int .i64 1, .int .i64 x, nilS, nilS, .int .i64 1, .int .i64 y, nilS, nilS] t)) g (i * 4) (rcQ vb p z x y)[i].k (rcQ vb p z x y)[i].n (rcQ vb p z x y)[i].b (rcQ vb p z x y)[i].l := by
  intro i h
  have hB : Blk (w.alloc (.cells #[.int .i64 1, .int .i64 p, nilS, nilS, .int .i64 2, .int .i64 0, vb, nilS, .int .i64 1, .int .i64 z, nilS, nilS, .int .i64 1, .int .i64 x, nilS, nilS, .int .i64 1, .int .i64 y, nilS, nilS] t)) g t #[.int .i64 1, .int .i64 p, nilS, nilS, .int .i64 2, .int .i64 0, vb, nilS, .int .i64 1, .int .i64 z, nilS, nilS, .int .i64 1, .int .i64 x, nilS, nilS, .int .i64 1, .int .i64 y, nilS, nilS] := Blk.new hg rfl
  have : i = 0 ∨ i = 1 ∨ i = 2 ∨ i = 3 ∨ i = 4 := by simp [rcQ] at h; omega
  rcases this with rfl | rfl | rfl | rfl | rfl <;> exact ⟨hB.val rfl, hB.val rfl, hB.val rfl, hB.val rfl⟩
theorem rcQ_one {vb : Value} (hv : vb.oneCell' = true) {p z x y : Int} : ∀ i (h : i < (rcQ vb p z x y).length), (rcQ vb p z x y)[i].b.oneCell' = true ∧ (rcQ vb p z x y)[i].l.oneCell' = true := by
  intro i h
  have : i = 0 ∨ i = 1 ∨ i = 2 ∨ i = 3 ∨ i = 4 := by simp [rcQ] at h; omega
  rcases this with rfl | rfl | rfl | rfl | rfl <;> first | exact ⟨rfl, rfl⟩ | exact ⟨hv, rfl⟩
theorem rcQ_at {w : World} {vb : Value} {root : Nat → Int} (P Q G A B C p z a b : Int) (hs : SeqAt .u8 w vb (hList root)) (hR : Byt root) : QuadAt w 0 ([P, Q, G, A, B, C].map quadI ++ rcQ vb p z a b) (coinL P Q G A B C p root z a b) := by
  have h1 := quadI_at w 0 [P, Q, G, A, B, C, p]
  have h2 : QuadAt w 0 [⟨2, 0, vb, nilS⟩] [encBytes (hList root)] := QuadAt.one (itm_bytes hs (by rw [hList_length]; omega) (hList_bytes hR) 0)
  exact h1.app (h2.app (quadI_at w 0 [z, a, b]))

theorem rChallenge_any (P Q G A B C p : Int) (root : Nat → Int) (z a b r : Int) (w : World) (hQ0 : 1 ≤ Q) (hQ : Q < 2305843009213693952) (hR : Byt root) :
    Calls Tryz.prog 58 #[bas P Q G A B C, .int .i64 p, hashV root, sgn z a b r] w fun e w' => e = .returned (.int .i64 (coinC P Q G A B C p root z a b)) ∧ Up w w' := by
  obtain ⟨cs, hcs⟩ : ∃ cs, arrK .u8 root 32 = cs := ⟨_, rfl⟩
  have HCs : Hid (∀ i, i < 32 → cs[i]? = some (.int .u8 (root i))) := hid (fun i hi => by rw [← hcs, arrK_get hi])
  have HR := hid hR
  unfold hashV
  rw [hcs]
  clear hcs hR
  obtain ⟨o, ho⟩ : ∃ o, w.heap.size = o := ⟨_, rfl⟩
  have HO := hid ho
  clear ho
  go_enter Tryz.func58, Tryz.ntmps58
  go_wp2_with fail
  refine (rNumbers_any P Q G A B C _).mono ?_
  rintro e w1 ⟨gn, rfl, hI1, hU1⟩
  have HU1 := hid (((((Up.refl w).alloc _).alloc _).alloc _).trans hU1)
  have HA1 : Hid (BasAt w1 o P Q G A B C) := hid (((nums_six HO.out).up (((Up.refl _).alloc _).alloc _)).up hU1)
  have HC1 : Hid (Blk w1 (o + 1) 55 cs) := hid (((Blk.new (by simp [HO.out]) rfl).alloc _).up hU1)
  have HS1 : Hid (Blk w1 (o + 2) 57 #[.int .i64 z, .int .i64 a, .int .i64 b, .int .i64 r]) := hid ((Blk.new (by simp [HO.out]) rfl).up hU1)
  have HN1 := hid hI1
  rw [HO.out]
  clear hU1 hI1
  have hlo : o + 2 < w1.heap.size := HS1.out.lt
  go_wp2_with fail
  obtain ⟨L, hL⟩ : ∃ L, w1.heap.size = L := ⟨_, rfl⟩
  have hgn : gn < L := by rw [← hL]; exact HN1.out.lt
  obtain ⟨w2, hw2⟩ : ∃ w2, w1.alloc (.cells #[.int .i64 3, .int .i64 0, nilS, nilS] 142) = w2 := ⟨_, rfl⟩
  have HL2 : Hid (Blk w2 L 142 #[.int .i64 3, .int .i64 0, nilS, nilS]) := hid (by rw [← hw2]; exact Blk.new hL rfl)
  have HN2 : Hid (Blk w2 gn 3 #[.int .i64 P, .int .i64 Q, .int .i64 G, .int .i64 A, .int .i64 B, .int .i64 C]) := hid (by rw [← hw2]; exact HN1.out.alloc _)
  have HV2 : Hid (Up w1 w2) := hid (by rw [← hw2]; exact (Up.refl _).alloc _)
  have HL1 := hid hL
  have HWo : Hid (w.heap.size ≤ L) := hid (by have := HU1.out.size; omega)
  rw [hL] at hlo
  rw [hL]
  rw [show w1.alloc (.cells #[.int .i64 3, .int .i64 0, .slice none 0 0, .slice none 0 0] 142) = w2 from hw2]
  clear hL hw2 HN1
  have hc6 : ∀ i, i < 6 → #[Value.int .i64 P, .int .i64 Q, .int .i64 G, .int .i64 A, .int .i64 B, .int .i64 C][i]? = some (.int .i64 ([P, Q, G, A, B, C].getD i 0)) := fun i hi => by
    have : i = 0 ∨ i = 1 ∨ i = 2 ∨ i = 3 ∨ i = 4 ∨ i = 5 := by omega
    rcases this with rfl | rfl | rfl | rfl | rfl | rfl <;> rfl
  have HC6 := hid hc6
  have hn6 : ∀ i, i < 6 → [P, Q, G, A, B, C].take (i + 1) = [P, Q, G, A, B, C].take i ++ [[P, Q, G, A, B, C].getD i 0] := fun i hi => by
    rw [List.take_succ_eq_append_getElem (by simp; omega)]
    simp [hi]
  have HN6 := hid hn6
  have HLen6 : Hid (∀ i, i ≤ 6 → (([P, Q, G, A, B, C].take i).map quadI).length = i) := hid (fun i hi => by simp; omega)
  have HNs : Hid ([P, Q, G, A, B, C].take 6 = [P, Q, G, A, B, C]) := hid rfl
  clear hc6 hn6
  generalize hns : #[Value.int .i64 P, .int .i64 Q, .int .i64 G, .int .i64 A, .int .i64 B, .int .i64 C] = ns at *
  generalize hnl : [P, Q, G, A, B, C] = nl at *
  have HNl := hid hnl
  clear hns hnl
  go_loopw [11] (fun vi wr => ∃ (i : Nat) (ad : Option Addr) (cp : Nat), i ≤ 6 ∧ vi = .int .i64 i ∧ Hid (RcS L gn i ad cp ns wr) ∧ Hid (OwnQ 142 wr (L + 1) (.slice ad i cp) ((nl.take i).map quadI)) ∧ Hid (Up w1 wr)) (fun vi _ => 6 - (intOf vi).toNat)
  case atStart => exact ⟨0, none, 0, by omega, rfl, hid ⟨HL2.out, HN2.out⟩, hid ownQ_none, HV2⟩
  case round =>
    clear HL2 HN2 HV2
    obtain ⟨i, ad, cp, hi, rfl, HB, HQ, HV⟩ := hrel
    have hLw : L < wr.heap.size := HB.out.1.lt
    by_cases hlt : i < 6
    · have z1 : (i : Int) < 6 := by omega
      have HX := hid (HC6.out i hlt)
      have HT6 := hid (HN6.out i hlt)
      have HLi := hid (HLen6.out i (by omega))
      have HLi1 := hid (HLen6.out (i + 1) (by omega))
      generalize nl.getD i 0 = x at *
      have HQ7 : Hid ((nl.take i).map quadI ++ [quadI x] = (nl.take (i + 1)).map quadI) := hid (by rw [HT6.out, List.map_append]; rfl)
      go_wp2_with fail
      refine region_E (RcS L gn i ad cp ns) 10 (by kernel_rfl) (HB.out.up (Up.refl _).drew) fun hS => ?_
      refine anyE_take (i := 0) (v := ?_) 23 rfl rfl (by kernel_rfl) (by kernel_rfl) (by decide) (fun _ _ _ h => h) (by kernel_rfl) (by kernel_rfl) (.inl ⟨by rfl, fun u hu => ?_⟩) hS ?_
      rotate_left
      · (obtain ⟨u1, u2⟩ := RcS.cells hu; rw [HX.out] at u2; go_simp; first | done | with_reducible rfl)
      simp only [Act.put, List.setIfInBounds_toArray, List.set_cons_zero, List.set_cons_succ]
      refine anyE_take (i := 1) (v := ?_) 24 rfl rfl (by kernel_rfl) (by kernel_rfl) (by decide) (fun _ _ _ h => h) (by kernel_rfl) (by kernel_rfl) (.inl ⟨by rfl, fun u hu => ?_⟩) hS ?_
      rotate_left
      · (obtain ⟨u1, u2⟩ := RcS.cells hu; rw [HX.out] at u2; go_simp; first | done | with_reducible rfl)
      simp only [Act.put, List.setIfInBounds_toArray, List.set_cons_zero, List.set_cons_succ]
      refine anyE_take (i := 2) (v := ?_) 25 rfl rfl (by kernel_rfl) (by kernel_rfl) (by decide) (fun _ _ _ h => h) (by kernel_rfl) (by kernel_rfl) (.inl ⟨by rfl, fun u hu => ?_⟩) hS ?_
      rotate_left
      · (obtain ⟨u1, u2⟩ := RcS.cells hu; rw [HX.out] at u2; go_simp; first | done | with_reducible rfl)
      simp only [Act.put, List.setIfInBounds_toArray, List.set_cons_zero, List.set_cons_succ]
      refine anyE_take (i := 3) (v := ?_) 26 rfl rfl (by kernel_rfl) (by kernel_rfl) (by decide) (fun _ _ _ h => h) (by kernel_rfl) (by kernel_rfl) (.inl ⟨by rfl, fun u hu => ?_⟩) hS ?_
      rotate_left
      · (obtain ⟨u1, u2⟩ := RcS.cells hu; rw [HX.out] at u2; go_simp; first | done | with_reducible rfl)
      simp only [Act.put, List.setIfInBounds_toArray, List.set_cons_zero, List.set_cons_succ]
      refine anyE_take (i := 4) (v := ?_) 27 rfl rfl (by kernel_rfl) (by kernel_rfl) (by decide) (fun _ _ _ h => h) (by kernel_rfl) (by kernel_rfl) (.inl ⟨by rfl, fun u hu => ?_⟩) hS ?_
      rotate_left
      · (obtain ⟨u1, u2⟩ := RcS.cells hu; rw [HX.out] at u2; go_simp; first | done | with_reducible rfl)
      simp only [Act.put, List.setIfInBounds_toArray, List.set_cons_zero, List.set_cons_succ]
      refine anyE_take (i := 5) (v := ?_) 28 rfl rfl (by kernel_rfl) (by kernel_rfl) (by decide) (fun _ _ _ h => h) (by kernel_rfl) (by kernel_rfl) (.inl ⟨by rfl, fun u hu => ?_⟩) hS ?_
      rotate_left
      · (obtain ⟨u1, u2⟩ := RcS.cells hu; rw [HX.out] at u2; go_simp; first | done | with_reducible rfl)
      simp only [Act.put, List.setIfInBounds_toArray, List.set_cons_zero, List.set_cons_succ]
      refine anyE_one (i := 6) rfl (by kernel_rfl) rfl (fun K hK => ?_)
      go_simp
      refine (rInteger_any x _).mono ?_
      rintro e w3 ⟨rfl, hU3⟩
      dsimp only
      have hS3 := RcS.up hS hU3
      refine hK.out _ _ (.inr hS3) ?_
      clear hK
      try simp only [Act.put, List.setIfInBounds_toArray, List.set_cons_zero, List.set_cons_succ]
      refine anyE_one (i := 7) rfl (by kernel_rfl) rfl (fun K hK => ?_)
      go_simp
      have hQ4 := (Up.refl w3).alloc (.cells #[.int .i64 1, .int .i64 x, nilS, nilS] 142)
      have hS4 := RcS.up hS3 hQ4
      refine hK.out _ _ (.inr hS4) ?_
      clear hK
      try simp only [Act.put, List.setIfInBounds_toArray, List.set_cons_zero, List.set_cons_succ]
      have hVw : Up wr (w3.alloc (.cells #[.int .i64 1, .int .i64 x, nilS, nilS] 142)) := ((Up.refl wr).drew.trans hU3).trans hQ4
      have hO4 := HQ.out.up hVw
      have hz4 := hVw.size
      refine anyE_one (i := 8) rfl (by kernel_rfl) rfl (fun K hK => ?_)
      refine op_appQ infoItm rfl Tryz.underlying140 (by omega) _ _ rfl (L + 1) rfl hO4 w3.heap.size 1 (news := [quadI x]) rfl (fun j hj => by (obtain rfl : j = 0 := (by simp at hj; omega)); exact itm_new rfl) (fun j hj => by (obtain rfl : j = 0 := (by simp at hj; omega)); exact ⟨rfl, rfl⟩) (by have := HLi.out; simp; simp at this; omega) (by omega) ?_
      intro v5 w5 hO5 hg5
      have hB5 := hO4.below hg5 (by omega)
      have hS5 := RcS.below hS4 hB5 (by omega) (by omega)
      rw [HQ7.out] at hO5
      obtain ⟨a5, c5, rfl⟩ := hO5.shape
      rw [HLi1.out] at hO5
      rw [HLi1.out]
      change K (Act.put _ (some 31) _) _
      refine hK.out _ _ (.inr hS5) ?_
      clear hK
      try simp only [Act.put, List.setIfInBounds_toArray, List.set_cons_zero, List.set_cons_succ]
      refine anyE_take (i := 9) (v := ?_) 32 rfl rfl (by kernel_rfl) (by kernel_rfl) (by decide) (fun _ _ _ h => h) (by kernel_rfl) (by kernel_rfl) (.inl ⟨by rfl, fun u hu => ?_⟩) hS5 ?_
      rotate_left
      · (obtain ⟨u1, u2⟩ := RcS.cells hu; rw [HX.out] at u2; go_simp; first | done | with_reducible rfl)
      simp only [Act.put, List.setIfInBounds_toArray, List.set_cons_zero, List.set_cons_succ]
      have k3 := hS5.1.val (i := 3) rfl
      have y3 := hS5.1.thawed 3
      refine anyE_one (i := 10) rfl (by kernel_rfl) rfl (fun K hK => ?_)
      go_simp
      refine hK.out _ _ (.inl rfl) (anyE_done (by kernel_rfl) ?_ _)
      clear hK
      have HS6 : Hid (RcS L gn (i + 1) a5 c5 ns (w5.setCell ⟨L, 3, none⟩ (.slice a5 (i + 1) c5))) := hid ⟨hS5.1.wrote 3 _, hS5.2.apart (a := ⟨L, 3, none⟩) (by show gn ≠ L; omega) _⟩
      have HQ6 := hid (hO5.set (a := ⟨L, 3, none⟩) (by show L < L + 1; omega) (.slice a5 (i + 1) c5))
      have HV6 := hid ((up_below (HV.out.trans hVw) hB5 (by have := HL1.out; omega)).setCell (a := ⟨L, 3, none⟩) (by have := HL1.out; show w1.heap.size ≤ L; omega) (.slice a5 (i + 1) c5))
      clear hS hS3 hS4 hS5 k3 y3 hO4 hO5 hg5 hB5 hVw hQ4 hU3 hz4
      generalize w5.setCell ⟨L, 3, none⟩ (.slice a5 (i + 1) c5) = w6 at *
      go_wp2_with fail
      go_roundw
      case rel => exact ⟨i + 1, a5, c5, by omega, by go_num, HS6, HQ6, HV6⟩
      case measure => simp [intOf]; omega
    · obtain rfl : i = 6 := by omega
      rw [show ((6 : Nat) : Int) = 6 from rfl]
      have HC2 := hid (HC1.out.up HV.out)
      have HS2 := hid (HS1.out.up HV.out)
      have HU2 := hid (HU1.out.trans HV.out)
      have HLn6 := hid (HLen6.out 6 (by omega))
      have HQr := HQ
      have hz2 : decide ((6 : Int) < 6) = false := by decide
      clear HC1 HS1 HU1 HQ HC6 HN6 HLen6
      go_wp2_with fail
      obtain ⟨b0, hb0⟩ : ∃ b0, wr.heap.size = b0 := ⟨_, rfl⟩
      obtain ⟨w3, hw3⟩ : ∃ w3, wr.alloc (.cells #[.int .i64 2, .int .i64 0, nilS, nilS] 142) = w3 := ⟨_, rfl⟩
      have HV3 : Hid (Up wr w3) := hid (by rw [← hw3]; exact (Up.refl _).alloc _)
      have HB3 : Hid (Blk w3 b0 142 #[.int .i64 2, .int .i64 0, nilS, nilS]) := hid (by rw [← hw3]; exact Blk.new hb0 rfl)
      have HC3 := hid (HC2.out.up HV3.out)
      have HB0 := hid hb0
      have HWb : Hid (w.heap.size ≤ b0) := hid (by have := HWo.out; omega)
      rw [hb0]
      rw [show wr.alloc (.cells #[.int .i64 2, .int .i64 0, .slice none 0 0, .slice none 0 0] 142) = w3 from hw3]
      rw [hb0] at hLw
      clear hw3 hb0
      have HSn := hid (joinTo_succ root [])
      have HLj := hid (joinTo_length root [])
      have HJe : Hid (joinTo root [] 32 = hList root) := hid rfl
      go_loopw [13] (fun vi wq => ∃ (i : Nat) (a2 : Option Addr) (c2 : Nat), i ≤ 32 ∧ vi = .int .i64 i ∧ Hid (RbS b0 (o + 1) i a2 c2 cs wq) ∧ Hid (OwnS 5 .u8 wq (b0 + 1) (.slice a2 i c2) (joinTo root [] i)) ∧ Hid (Up wr wq)) (fun vi _ => 32 - (intOf vi).toNat)
      case atStart => exact ⟨0, none, 0, by omega, rfl, hid ⟨HB3.out, HC3.out⟩, hid own_none, HV3⟩
      case round =>
        clear HB3 HC3 HV3
        obtain ⟨i, a2, c2, hi, rfl, HBq, HOq, HVq⟩ := hrel
        have hbw : b0 < wr.heap.size := HBq.out.1.lt
        by_cases hlt : i < 32
        · have z1 : (i : Int) < 32 := by omega
          have HX := hid (HCs.out i hlt)
          have HS' := hid (HSn.out i)
          have HLi := hid (HLj.out i)
          have HLi1 := hid (HLj.out (i + 1))
          generalize root i = x at *
          go_wp2_with fail
          refine region_E (RbS b0 (o + 1) i a2 c2 cs) 8 (by kernel_rfl) (HBq.out.up (Up.refl _).drew) fun hS => ?_
          refine anyE_take (i := 0) (v := ?_) 38 rfl rfl (by kernel_rfl) (by kernel_rfl) (by decide) (fun _ _ _ h => h) (by kernel_rfl) (by kernel_rfl) (.inl ⟨by rfl, fun u hu => ?_⟩) hS ?_
          rotate_left
          · (obtain ⟨u1, u2⟩ := RbS.cells hu; rw [HX.out] at u2; go_simp; first | done | with_reducible rfl)
          simp only [Act.put, List.setIfInBounds_toArray, List.set_cons_zero, List.set_cons_succ]
          refine anyE_take (i := 1) (v := ?_) 39 rfl rfl (by kernel_rfl) (by kernel_rfl) (by decide) (fun _ _ _ h => h) (by kernel_rfl) (by kernel_rfl) (.inl ⟨by rfl, fun u hu => ?_⟩) hS ?_
          rotate_left
          · (obtain ⟨u1, u2⟩ := RbS.cells hu; rw [HX.out] at u2; go_simp; first | done | with_reducible rfl)
          simp only [Act.put, List.setIfInBounds_toArray, List.set_cons_zero, List.set_cons_succ]
          refine anyE_take (i := 2) (v := ?_) 40 rfl rfl (by kernel_rfl) (by kernel_rfl) (by decide) (fun _ _ _ h => h) (by kernel_rfl) (by kernel_rfl) (.inl ⟨by rfl, fun u hu => ?_⟩) hS ?_
          rotate_left
          · (obtain ⟨u1, u2⟩ := RbS.cells hu; rw [HX.out] at u2; go_simp; first | done | with_reducible rfl)
          simp only [Act.put, List.setIfInBounds_toArray, List.set_cons_zero, List.set_cons_succ]
          refine anyE_take (i := 3) (v := ?_) 41 rfl rfl (by kernel_rfl) (by kernel_rfl) (by decide) (fun _ _ _ h => h) (by kernel_rfl) (by kernel_rfl) (.inl ⟨by rfl, fun u hu => ?_⟩) hS ?_
          rotate_left
          · (obtain ⟨u1, u2⟩ := RbS.cells hu; rw [HX.out] at u2; go_simp; first | done | with_reducible rfl)
          simp only [Act.put, List.setIfInBounds_toArray, List.set_cons_zero, List.set_cons_succ]
          refine anyE_take (i := 4) (v := ?_) 42 rfl rfl (by kernel_rfl) (by kernel_rfl) (by decide) (fun _ _ _ h => h) (by kernel_rfl) (by kernel_rfl) (.inl ⟨by rfl, fun u hu => ?_⟩) hS ?_
          rotate_left
          · (obtain ⟨u1, u2⟩ := RbS.cells hu; rw [HX.out] at u2; go_simp; first | done | with_reducible rfl)
          simp only [Act.put, List.setIfInBounds_toArray, List.set_cons_zero, List.set_cons_succ]
          refine anyE_one (i := 5) rfl (by kernel_rfl) rfl (fun K hK => ?_)
          go_simp
          have hQ4 := (Up.refl wr).drew.alloc (.cells #[.int .u8 x] 5)
          have hS4 := RbS.up HBq.out hQ4
          refine hK.out _ _ (.inr hS4) ?_
          clear hK
          try simp only [Act.put, List.setIfInBounds_toArray, List.set_cons_zero, List.set_cons_succ]
          have hO4 := HOq.out.up hQ4
          have hz4 := hQ4.size
          refine anyE_one (i := 6) rfl (by kernel_rfl) rfl (fun K hK => ?_)
          refine op_app infoU8 Tryz.underlying25 (by omega) _ _ rfl (b0 + 1) rfl rfl hO4 (seq_new _ x _) (by have := HLi.out; simp; simp at this; omega) (Nat.le_trans (show b0 + 1 ≤ wr.heap.size by omega) hQ4.size) ?_
          intro v5 w5 hO5 hg5
          have hB5 := below_own hO4 hg5 (Nat.le_trans (show b0 + 1 ≤ wr.heap.size by omega) hQ4.size)
          have hS5 := RbS.below hS4 hB5 (by omega) (by omega)
          rw [HS'.out] at hO5
          obtain ⟨a5, c5, rfl, _, _⟩ := hO5.shape
          rw [HLi1.out] at hO5
          rw [HLi1.out]
          simp only [List.length_nil, Nat.zero_add] at hO5 ⊢
          change K (Act.put _ (some 44) _) _
          refine hK.out _ _ (.inr hS5) ?_
          clear hK
          try simp only [Act.put, List.setIfInBounds_toArray, List.set_cons_zero, List.set_cons_succ]
          refine anyE_take (i := 7) (v := ?_) 45 rfl rfl (by kernel_rfl) (by kernel_rfl) (by decide) (fun _ _ _ h => h) (by kernel_rfl) (by kernel_rfl) (.inl ⟨by rfl, fun u hu => ?_⟩) hS5 ?_
          rotate_left
          · (obtain ⟨u1, u2⟩ := RbS.cells hu; rw [HX.out] at u2; go_simp; first | done | with_reducible rfl)
          simp only [Act.put, List.setIfInBounds_toArray, List.set_cons_zero, List.set_cons_succ]
          have k3 := hS5.1.val (i := 2) rfl
          have y3 := hS5.1.thawed 2
          refine anyE_one (i := 8) rfl (by kernel_rfl) rfl (fun K hK => ?_)
          go_simp
          refine hK.out _ _ (.inl rfl) (anyE_done (by kernel_rfl) ?_ _)
          clear hK
          have HS6 : Hid (RbS b0 (o + 1) (i + 1) a5 c5 cs (w5.setCell ⟨b0, 2, none⟩ (.slice a5 (i + 1) c5))) := hid ⟨hS5.1.wrote 2 _, hS5.2.apart (a := ⟨b0, 2, none⟩) (by show o + 1 ≠ b0; omega) _⟩
          have HO6 := hid (OwnS.set hO5 (a := ⟨b0, 2, none⟩) (by show b0 < b0 + 1; omega) (.slice a5 (i + 1) c5))
          have HV6 := hid ((up_below (HVq.out.trans hQ4) hB5 (by have := HB0.out; omega)).setCell (a := ⟨b0, 2, none⟩) (by have := HB0.out; show _ ≤ b0; omega) (.slice a5 (i + 1) c5))
          clear hS hS4 hS5 k3 y3 hO4 hO5 hg5 hB5 hQ4 hz4
          generalize w5.setCell ⟨b0, 2, none⟩ (.slice a5 (i + 1) c5) = w6 at *
          go_wp2_with fail
          go_roundw
          case rel => exact ⟨i + 1, a5, c5, by omega, by go_num, HS6, HO6, HV6⟩
          case measure => simp [intOf]; omega
        · obtain rfl : i = 32 := by omega
          rw [show ((32 : Nat) : Int) = 32 from rfl]
          have HO2 := hid HOq.out
          rw [HJe.out] at HO2
          have HU3 := hid (HU2.out.trans HVq.out)
          have HQ3 := hid (HQr.out.up HVq.out)
          have hS0 : RdS L b0 (o + 2) ad cp (.slice a2 32 c2) z a b r wr := ⟨HB.out.1.up HVq.out, HBq.out.1, HS2.out.up HVq.out⟩
          have HQlt : Hid (∀ j, (Value.slice ad 6 cp).ownBlock = some j → j < b0) := hid (fun j hj => by rw [← HB0.out]; exact OwnQ.blockLt HQr.out j hj)
          clear HOq HU2 HQr HSn HLj HB
          go_wp2_with fail
          refine region_E (RdS L b0 (o + 2) ad cp (.slice a2 32 c2) z a b r) 17 (by kernel_rfl) (hS0.up (Up.refl _).drew) fun hS => ?_
          refine anyE_take (i := 0) (v := ?_) 46 rfl rfl (by kernel_rfl) (by kernel_rfl) (by decide) (fun _ _ _ h => h) (by kernel_rfl) (by kernel_rfl) (.inl ⟨by rfl, fun u hu => ?_⟩) hS ?_
          rotate_left
          · (obtain ⟨u1, u2, u3, u4, u5, u6, u7, u8⟩ := RdS.cells hu; go_simp; first | done | with_reducible rfl)
          simp only [Act.put, List.setIfInBounds_toArray, List.set_cons_zero, List.set_cons_succ]
          refine anyE_take (i := 1) (v := ?_) 47 rfl rfl (by kernel_rfl) (by kernel_rfl) (by decide) (fun _ _ _ h => h) (by kernel_rfl) (by kernel_rfl) (.inl ⟨by rfl, fun u hu => ?_⟩) hS ?_
          rotate_left
          · (obtain ⟨u1, u2, u3, u4, u5, u6, u7, u8⟩ := RdS.cells hu; go_simp; first | done | with_reducible rfl)
          simp only [Act.put, List.setIfInBounds_toArray, List.set_cons_zero, List.set_cons_succ]
          refine anyE_take (i := 2) (v := ?_) 48 rfl rfl (by kernel_rfl) (by kernel_rfl) (by decide) (fun _ _ _ h => h) (by kernel_rfl) (by kernel_rfl) (.inl ⟨by rfl, fun u hu => ?_⟩) hS ?_
          rotate_left
          · (obtain ⟨u1, u2, u3, u4, u5, u6, u7, u8⟩ := RdS.cells hu; go_simp; first | done | with_reducible rfl)
          simp only [Act.put, List.setIfInBounds_toArray, List.set_cons_zero, List.set_cons_succ]
          refine anyE_take (i := 4) (v := ?_) 50 rfl rfl (by kernel_rfl) (by kernel_rfl) (by decide) (fun _ _ _ h => h) (by kernel_rfl) (by kernel_rfl) (.inl ⟨by rfl, fun u hu => ?_⟩) hS ?_
          rotate_left
          · (obtain ⟨u1, u2, u3, u4, u5, u6, u7, u8⟩ := RdS.cells hu; go_simp; first | done | with_reducible rfl)
          simp only [Act.put, List.setIfInBounds_toArray, List.set_cons_zero, List.set_cons_succ]
          refine anyE_take (i := 5) (v := ?_) 51 rfl rfl (by kernel_rfl) (by kernel_rfl) (by decide) (fun _ _ _ h => h) (by kernel_rfl) (by kernel_rfl) (.inl ⟨by rfl, fun u hu => ?_⟩) hS ?_
          rotate_left
          · (obtain ⟨u1, u2, u3, u4, u5, u6, u7, u8⟩ := RdS.cells hu; go_simp; first | done | with_reducible rfl)
          simp only [Act.put, List.setIfInBounds_toArray, List.set_cons_zero, List.set_cons_succ]
          refine anyE_take (i := 6) (v := ?_) 52 rfl rfl (by kernel_rfl) (by kernel_rfl) (by decide) (fun _ _ _ h => h) (by kernel_rfl) (by kernel_rfl) (.inl ⟨by rfl, fun u hu => ?_⟩) hS ?_
          rotate_left
          · (obtain ⟨u1, u2, u3, u4, u5, u6, u7, u8⟩ := RdS.cells hu; go_simp; first | done | with_reducible rfl)
          simp only [Act.put, List.setIfInBounds_toArray, List.set_cons_zero, List.set_cons_succ]
          refine anyE_take (i := 8) (v := ?_) 54 rfl rfl (by kernel_rfl) (by kernel_rfl) (by decide) (fun _ _ _ h => h) (by kernel_rfl) (by kernel_rfl) (.inl ⟨by rfl, fun u hu => ?_⟩) hS ?_
          rotate_left
          · (obtain ⟨u1, u2, u3, u4, u5, u6, u7, u8⟩ := RdS.cells hu; go_simp; first | done | with_reducible rfl)
          simp only [Act.put, List.setIfInBounds_toArray, List.set_cons_zero, List.set_cons_succ]
          refine anyE_take (i := 9) (v := ?_) 55 rfl rfl (by kernel_rfl) (by kernel_rfl) (by decide) (fun _ _ _ h => h) (by kernel_rfl) (by kernel_rfl) (.inl ⟨by rfl, fun u hu => ?_⟩) hS ?_
          rotate_left
          · (obtain ⟨u1, u2, u3, u4, u5, u6, u7, u8⟩ := RdS.cells hu; go_simp; first | done | with_reducible rfl)
          simp only [Act.put, List.setIfInBounds_toArray, List.set_cons_zero, List.set_cons_succ]
          refine anyE_take (i := 11) (v := ?_) 57 rfl rfl (by kernel_rfl) (by kernel_rfl) (by decide) (fun _ _ _ h => h) (by kernel_rfl) (by kernel_rfl) (.inl ⟨by rfl, fun u hu => ?_⟩) hS ?_
          rotate_left
          · (obtain ⟨u1, u2, u3, u4, u5, u6, u7, u8⟩ := RdS.cells hu; go_simp; first | done | with_reducible rfl)
          simp only [Act.put, List.setIfInBounds_toArray, List.set_cons_zero, List.set_cons_succ]
          refine anyE_take (i := 12) (v := ?_) 58 rfl rfl (by kernel_rfl) (by kernel_rfl) (by decide) (fun _ _ _ h => h) (by kernel_rfl) (by kernel_rfl) (.inl ⟨by rfl, fun u hu => ?_⟩) hS ?_
          rotate_left
          · (obtain ⟨u1, u2, u3, u4, u5, u6, u7, u8⟩ := RdS.cells hu; go_simp; first | done | with_reducible rfl)
          simp only [Act.put, List.setIfInBounds_toArray, List.set_cons_zero, List.set_cons_succ]
          refine anyE_one (i := 3) rfl (by kernel_rfl) rfl (fun K hK => ?_)
          go_simp
          refine (rInteger_any p _).mono ?_
          rintro e w4 ⟨rfl, hU4⟩
          dsimp only
          have hS4 := RdS.up hS hU4
          have hD4 := (Up.refl wr).drew.trans hU4
          refine hK.out _ _ (.inr hS4) ?_
          clear hK
          try simp only [Act.put, List.setIfInBounds_toArray, List.set_cons_zero, List.set_cons_succ]
          refine anyE_one (i := 7) rfl (by kernel_rfl) rfl (fun K hK => ?_)
          go_simp
          refine (rInteger_any z _).mono ?_
          rintro e w5 ⟨rfl, hU5⟩
          dsimp only
          have hS5 := RdS.up hS4 hU5
          have hD5 := hD4.trans hU5
          refine hK.out _ _ (.inr hS5) ?_
          clear hK
          try simp only [Act.put, List.setIfInBounds_toArray, List.set_cons_zero, List.set_cons_succ]
          refine anyE_one (i := 10) rfl (by kernel_rfl) rfl (fun K hK => ?_)
          go_simp
          refine (rInteger_any a _).mono ?_
          rintro e w6 ⟨rfl, hU6⟩
          dsimp only
          have hS6 := RdS.up hS5 hU6
          have hD6 := hD5.trans hU6
          refine hK.out _ _ (.inr hS6) ?_
          clear hK
          try simp only [Act.put, List.setIfInBounds_toArray, List.set_cons_zero, List.set_cons_succ]
          refine anyE_one (i := 13) rfl (by kernel_rfl) rfl (fun K hK => ?_)
          go_simp
          refine (rInteger_any b _).mono ?_
          rintro e w7 ⟨rfl, hU7⟩
          dsimp only
          have hS7 := RdS.up hS6 hU7
          have hD7 := hD6.trans hU7
          refine hK.out _ _ (.inr hS7) ?_
          clear hK
          try simp only [Act.put, List.setIfInBounds_toArray, List.set_cons_zero, List.set_cons_succ]
          refine anyE_one (i := 14) rfl (by kernel_rfl) rfl (fun K hK => ?_)
          go_simp
          have hD8 := hD7.alloc (.cells #[.int .i64 1, .int .i64 p, nilS, nilS, .int .i64 2, .int .i64 0, .slice a2 32 c2, nilS, .int .i64 1, .int .i64 z, nilS, nilS, .int .i64 1, .int .i64 a, nilS, nilS, .int .i64 1, .int .i64 b, nilS, nilS] 142)
          have hS8 := RdS.up hS7 ((Up.refl w7).alloc (.cells #[.int .i64 1, .int .i64 p, nilS, nilS, .int .i64 2, .int .i64 0, .slice a2 32 c2, nilS, .int .i64 1, .int .i64 z, nilS, nilS, .int .i64 1, .int .i64 a, nilS, nilS, .int .i64 1, .int .i64 b, nilS, nilS] 142))
          refine hK.out _ _ (.inr hS8) ?_
          clear hK
          try simp only [Act.put, List.setIfInBounds_toArray, List.set_cons_zero, List.set_cons_succ]
          have hQ8 := HQ3.out.up hD8
          have hz8 := hD8.size
          refine anyE_one (i := 15) rfl (by kernel_rfl) rfl (fun K hK => ?_)
          refine op_appQ infoItm rfl Tryz.underlying140 (by omega) _ _ rfl (L + 1) rfl hQ8 w7.heap.size 5 (news := rcQ (.slice a2 32 c2) p z a b) rfl (rcQ_cells rfl) (rcQ_one rfl) (by rw [HLn6.out]; simp [rcQ]) (by omega) ?_
          intro v9 w9 hO9 hg9
          have hB9 := hQ8.below hg9 (by omega)
          have hno : some b0 ≠ (Value.slice ad 6 cp).ownBlock := fun he => by have := HQlt.out b0 he.symm; omega
          have hno2 : some (o + 2) ≠ (Value.slice ad 6 cp).ownBlock := fun he => by have := hQ8.block (o + 2) he.symm; omega
          have hno3 : some L ≠ (Value.slice ad 6 cp).ownBlock := fun he => by have := hQ8.block L he.symm; omega
          have hS9 : RdS L b0 (o + 2) ad cp (.slice a2 32 c2) z a b r w9 := ⟨hS8.1.grown hg9 hno3, hS8.2.1.grown hg9 hno, hS8.2.2.grown hg9 hno2⟩
          have hP9 := (HO2.out.up hD8).grown hg9 (by
            rcases hv : (Value.slice a2 32 c2).ownBlock with _ | j
            · exact .inl rfl
            · exact .inr (fun he => by
                have h1 := HQlt.out j he.symm
                have h2 := HO2.out.block j hv
                omega))
          obtain ⟨a9, c9, rfl⟩ := hO9.shape
          have hlen : ((nl.take 6).map quadI ++ rcQ (.slice a2 32 c2) p z a b).length = 11 := by rw [List.length_append, HLn6.out]; rfl
          rw [hlen] at hO9
          rw [hlen]
          change K (Act.put _ (some 61) _) _
          refine hK.out _ _ (.inr hS9) ?_
          clear hK
          try simp only [Act.put, List.setIfInBounds_toArray, List.set_cons_zero, List.set_cons_succ]
          have k3 := hS9.1.val (i := 3) rfl
          have y3 := hS9.1.thawed 3
          refine anyE_take (i := 16) (v := ?_) 62 rfl rfl (by kernel_rfl) (by kernel_rfl) (by decide) (fun _ _ _ h => h) (by kernel_rfl) (by kernel_rfl) (.inl ⟨by rfl, fun u hu => ?_⟩) hS9 ?_
          rotate_left
          · (obtain ⟨u1, u2, u3, u4, u5, u6, u7, u8⟩ := RdS.cells hu; go_simp; first | done | with_reducible rfl)
          simp only [Act.put, List.setIfInBounds_toArray, List.set_cons_zero, List.set_cons_succ]
          refine anyE_one (i := 17) rfl (by kernel_rfl) rfl (fun K hK => ?_)
          go_simp
          refine hK.out _ _ (.inl rfl) (anyE_done (by kernel_rfl) ?_ _)
          clear hK
          have HL9 : Hid (Blk (w9.setCell ⟨L, 3, none⟩ (.slice a9 11 c9)) L 142 #[.int .i64 3, .int .i64 0, nilS, .slice a9 11 c9]) := hid (hS9.1.wrote 3 _)
          have HO9 := hid (hO9.set (a := ⟨L, 3, none⟩) (by show L < L + 1; omega) (.slice a9 11 c9))
          have HP9 := hid (OwnS.set hP9 (a := ⟨L, 3, none⟩) (by show L < b0 + 1; omega) (.slice a9 11 c9))
          have HV9 := hid ((up_below (HU3.out.trans hD8) hB9 (by have := HWo.out; omega)).setCell (a := ⟨L, 3, none⟩) (by have := HWo.out; show w.heap.size ≤ L; omega) (.slice a9 11 c9))
          have HA9 : Hid (BasAt (w9.setCell ⟨L, 3, none⟩ (.slice a9 11 c9)) o P Q G A B C) := hid (HA1.out.up ((up_below ((HV.out.trans HVq.out).trans hD8) hB9 (by have := HL1.out; omega)).setCell (a := ⟨L, 3, none⟩) (by have := HL1.out; show w1.heap.size ≤ L; omega) _))
          clear hS hS0 hS4 hS5 hS6 hS7 hS8 hS9 k3 y3 hO9 hg9 hB9 hD4 hD5 hD6 hD7 hD8 hU4 hU5 hU6 hU7 hz8 hQ8 hP9 hno hno2 hno3 hlen
          generalize w9.setCell ⟨L, 3, none⟩ (.slice a9 11 c9) = wa at *
          have HIt : Hid (ItmAt wa 1 3 0 nilS (.slice a9 11 c9) (encList (coinL P Q G A B C p root z a b))) := hid (by
              have h1 := HO9.out
              rw [HNs.out, ← HNl.out] at h1
              exact itm_list (h1.row (rcQ_at P Q G A B C p z a b HP9.out.seq HR.out)) (by simp [coinL]))
          have HEl : Hid ((encList (coinL P Q G A B C p root z a b)).length = 132) := hid (by rw [encList_length, coinL_flat])
          have HEb := hid (coinL_byt (P := P) (Q := Q) (G := G) (A := A) (B := B) (C := C) (p := p) (z := z) (a := a) (b := b) HR.out)
          have HVn : Hid (coinC P Q G A B C p root z a b = numH (tagB (txt coinTag) (encList (coinL P Q G A B C p root z a b))) Q) := hid (by rw [coinTag_txt]; rfl)
          have hS0 : ReS L o (.slice a9 11 c9) P Q G A B C wa := ⟨HL9.out, HA9.out⟩
          generalize encList (coinL P Q G A B C p root z a b) = es at *
          clear HO9 HP9 HQ3 HU3 HA1 HO2 HL9 HA9 HS2 HC2 HQlt HBq HV HVq
          go_wp2_with fail
          refine region_E (ReS L o (.slice a9 11 c9) P Q G A B C) 7 (by kernel_rfl) (hS0.up (Up.refl _).drew) fun hS => ?_
          refine anyE_take (i := 0) (v := ?_) 63 rfl rfl (by kernel_rfl) (by kernel_rfl) (by decide) (fun _ _ _ h => h) (by kernel_rfl) (by kernel_rfl) (.inl ⟨by rfl, fun u hu => ?_⟩) hS ?_
          rotate_left
          · (obtain ⟨u1, u2, u3, u4, u5⟩ := ReS.cells hu; go_simp; first | done | with_reducible rfl)
          simp only [Act.put, List.setIfInBounds_toArray, List.set_cons_zero, List.set_cons_succ]
          refine anyE_take (i := 3) (v := ?_) 66 rfl rfl (by kernel_rfl) (by kernel_rfl) (by decide) (fun _ _ _ h => h) (by kernel_rfl) (by kernel_rfl) (.inl ⟨by rfl, fun u hu => ?_⟩) hS ?_
          rotate_left
          · (obtain ⟨u1, u2, u3, u4, u5⟩ := ReS.cells hu; go_simp; first | done | with_reducible rfl)
          simp only [Act.put, List.setIfInBounds_toArray, List.set_cons_zero, List.set_cons_succ]
          refine anyE_take (i := 4) (v := ?_) 67 rfl rfl (by kernel_rfl) (by kernel_rfl) (by decide) (fun _ _ _ h => h) (by kernel_rfl) (by kernel_rfl) (.inl ⟨by rfl, fun u hu => ?_⟩) hS ?_
          rotate_left
          · (obtain ⟨u1, u2, u3, u4, u5⟩ := ReS.cells hu; go_simp; first | done | with_reducible rfl)
          simp only [Act.put, List.setIfInBounds_toArray, List.set_cons_zero, List.set_cons_succ]
          refine anyE_take (i := 5) (v := ?_) 68 rfl rfl (by kernel_rfl) (by kernel_rfl) (by decide) (fun _ _ _ h => h) (by kernel_rfl) (by kernel_rfl) (.inl ⟨by rfl, fun u hu => ?_⟩) hS ?_
          rotate_left
          · (obtain ⟨u1, u2, u3, u4, u5⟩ := ReS.cells hu; go_simp; first | done | with_reducible rfl)
          simp only [Act.put, List.setIfInBounds_toArray, List.set_cons_zero, List.set_cons_succ]
          refine anyE_one (i := 1) rfl (by kernel_rfl) rfl (fun K hK => ?_)
          go_simp
          refine (renc_ok 1 3 0 nilS (.slice a9 11 c9) es _ (HIt.out.up (Up.refl _).drew) (by have := HEl.out; omega)).mono ?_
          rintro e wb ⟨v12, rfl, hO12, hU12⟩
          dsimp only
          have hSb := ReS.up hS hU12
          have hDb := (Up.refl wa).drew.trans hU12
          refine hK.out _ _ (.inr hSb) ?_
          clear hK
          try simp only [Act.put, List.setIfInBounds_toArray, List.set_cons_zero, List.set_cons_succ]
          refine anyE_one (i := 2) rfl (by kernel_rfl) rfl (fun K hK => ?_)
          go_simp
          refine (rTagged_any coinTag v12 es _ (by decide) hO12.seq (by have := HEl.out; omega) HEb.out).mono ?_
          rintro e wc ⟨rfl, hU13⟩
          dsimp only
          have hSc := ReS.up hSb hU13
          have hDc := hDb.trans hU13
          refine hK.out _ _ (.inr hSc) ?_
          clear hK
          try simp only [Act.put, List.setIfInBounds_toArray, List.set_cons_zero, List.set_cons_succ]
          have HHb := hid (tagB_range (txt coinTag) es)
          generalize tagB (txt coinTag) es = H at *
          refine anyE_one (i := 6) rfl (by kernel_rfl) rfl (fun K hK => ?_)
          go_simp
          refine (rNumber_ok H Q _ HHb.out (by omega) (by omega)).mono ?_
          rintro e wd ⟨rfl, hU14⟩
          dsimp only
          have hSd := ReS.up hSc hU14
          have hDd := hDc.trans hU14
          refine hK.out _ _ (.inr hSd) ?_
          clear hK
          try simp only [Act.put, List.setIfInBounds_toArray, List.set_cons_zero, List.set_cons_succ]
          refine anyE_one (i := 7) rfl (by kernel_rfl) rfl (fun K hK => ?_)
          go_simp
          refine hK.out _ _ (.inl rfl) (anyE_done (by kernel_rfl) ?_ _)
          clear hK
          go_wp2
          go_ret
          exact ⟨congrArg (fun x => Ending.returned (.int .i64 x)) HVn.out.symm, HV9.out.trans hDd⟩
end Go.Proofs.YtoaomjdpiealfaaGreatDoor
namespace Go.Proofs.YtoaomjdpiealfaaGreatDoor
open Go.RowKit Go.Sp
set_option maxHeartbeats 4000000
set_option maxRecDepth 20000

theorem results_tmp2_row_tmp {P : Program} {fn : Func} {q r p u : Tmp} {ty : TypeId} (h : fn.results = #[.tmp q, .tmp r, .cell p ty, .tmp u]) (tmps : Array Value) (w : World) (g : Nat) (t : TypeId) (cs : Array Value) (fr : Nat × Nat) (d : TypeDesc)
    (hp : tmps.getD p undef = .pointer (some ⟨g, 0, none⟩)) (hg : w.heap[g]? = some (.cells cs t fr))
    (hu : P.underlying ty = some d) (hd : (match d with | .struct _ | .array _ _ => true | _ => false) = true) (hi : (P.info? ty).map (·.size) = some cs.size) :
    (results fn tmps).run P w = .ok (.tuple #[tmps.getD q undef, tmps.getD r undef, .agg cs, tmps.getD u undef]) w := by
  have hp' : tmps[p]?.getD undef = .pointer (some ⟨g, 0, none⟩) := by simpa using hp
  simp only [results, h]
  simp [Result.andThen, hp', asAddr, run_loadVar_row w g t ty cs fr d hg hu hd hi]

theorem OwnR.apart {e t : TypeId} {w : World} {base g : Nat} {v : Value} {rs : List Rec} {cs : Array Value} (h : OwnR e w base v rs) (hb : Blk w g t cs) (hne : t ≠ e) : some g ≠ v.ownBlock := by
  rcases h.2 with ⟨rfl, _⟩ | ⟨g', cap, cur, rfl, _, hg, _⟩
  · simp [Value.ownBlock]
  · intro he
    simp [Value.ownBlock] at he
    subst he
    have hb' : w.heap[g]? = some (.cells cs t (0, 0)) := hb
    rw [hb'] at hg
    simp only [Option.some.injEq, Obj.cells.injEq] at hg
    exact hne hg.2.1
theorem own_none_or (v : Value) : v.ownBlock = none ∨ ∃ g, v.ownBlock = some g := by cases v.ownBlock <;> simp
theorem OwnR.blk {e : TypeId} {w : World} {base g : Nat} {v : Value} {rs : List Rec} (h : OwnR e w base v rs) (hg : v.ownBlock = some g) : ∃ cs, Blk w g e cs := by
  rcases h.2 with ⟨rfl, _⟩ | ⟨g', cap, cur, rfl, _, hc, _⟩
  · cases hg
  · simp [Value.ownBlock] at hg
    subst hg
    exact ⟨cur, hc⟩
theorem ownS_blk {e : TypeId} {k : IntKind} {w : World} {base g : Nat} {v : Value} {xs : List Int} (h : OwnS e k w base v xs) (hg : v.ownBlock = some g) : ∃ cs, Blk w g e cs := by
  rcases h.2 with ⟨rfl, _⟩ | ⟨g', cap, cur, rfl, _, hc, _⟩
  · cases hg
  · simp [Value.ownBlock] at hg
    subst hg
    exact ⟨cur, hc⟩
theorem OwnR.grown {e : TypeId} {w w' : World} {base : Nat} {v : Value} {rs : List Rec} {row : Option Nat} (h : OwnR e w base v rs) (hg : w.grownBy w' row) (hne : v.ownBlock = none ∨ v.ownBlock ≠ row) : OwnR e w' base v rs := by
  refine ⟨h.1, ?_⟩
  rcases h.2 with h2 | ⟨g', cap, cur, rfl, h1, hc, h3⟩
  · exact .inl h2
  · refine .inr ⟨g', cap, cur, rfl, h1, (hg.block g' (Array.getElem?_eq_some_iff.1 hc).1 ?_).trans hc, h3⟩
    rcases hne with hn | hn
    · cases hn
    · exact hn
theorem ownR_ownS {e t : TypeId} {k : IntKind} {w : World} {b1 b2 : Nat} {v u : Value} {rs : List Rec} {xs : List Int} (h : OwnR e w b1 v rs) (h' : OwnS t k w b2 u xs) (hne : t ≠ e) : v.ownBlock = none ∨ v.ownBlock ≠ u.ownBlock := by
  rcases own_none_or u with hu | ⟨g, hu⟩
  · rcases own_none_or v with hv | ⟨g, hv⟩
    · exact .inl hv
    · right; rw [hu, hv]; simp
  · obtain ⟨cs, hb⟩ := ownS_blk h' hu
    right
    rw [hu]
    exact (h.apart hb hne).symm
theorem ownS_ownR {e t : TypeId} {k : IntKind} {w : World} {b1 b2 : Nat} {v u : Value} {rs : List Rec} {xs : List Int} (h' : OwnS t k w b2 u xs) (h : OwnR e w b1 v rs) (hne : t ≠ e) : u.ownBlock = none ∨ u.ownBlock ≠ v.ownBlock := by
  rcases own_none_or u with hu | ⟨g, hu⟩
  · exact .inl hu
  · obtain ⟨cs, hb⟩ := ownS_blk h' hu
    right
    rw [hu]
    exact h.apart hb hne
theorem ownRow_row {w : World} {base e size n : Nat} {v : Value} {us : List Value} (h : w.ownsRow base e size v n us) {k : Nat} (hk : k < base) (cs : Array Value) : (w.setRow k cs).ownsRow base e size v n us := by
  refine ⟨h.1, ?_⟩
  rcases h.2 with h2 | ⟨g', cap, cur, rfl, h1, hc, h3⟩
  · exact .inl h2
  · exact .inr ⟨g', cap, cur, rfl, h1, (setRow_other w k g' cs (by omega)).trans hc, h3⟩
theorem OwnR.row {e : TypeId} {w : World} {base : Nat} {v : Value} {rs : List Rec} (h : OwnR e w base v rs) {k : Nat} (hk : k < base) (cs : Array Value) : OwnR e (w.setRow k cs) base v rs := ownRow_row h hk cs
theorem ownS_row {e : TypeId} {k' : IntKind} {w : World} {base : Nat} {v : Value} {xs : List Int} (h : OwnS e k' w base v xs) {k : Nat} (hk : k < base) (cs : Array Value) : OwnS e k' (w.setRow k cs) base v xs := ownRow_row h hk cs

theorem OwnR.rowOther {e t : TypeId} {w : World} {base k : Nat} {v : Value} {rs : List Rec} {cs : Array Value} (h : OwnR e w base v rs) (hb : Blk w k t cs) (hne : t ≠ e) (cs' : Array Value) : OwnR e (w.setRow k cs') base v rs := by
  have ha := h.apart hb hne
  refine ⟨h.1, ?_⟩
  rcases h.2 with h2 | ⟨g', cap, cur, rfl, h1, hc, h3⟩
  · exact .inl h2
  · exact .inr ⟨g', cap, cur, rfl, h1, (setRow_other w k g' cs' (by intro e; subst e; exact ha rfl)).trans hc, h3⟩
theorem ownsRow_mono {w : World} {base base' e size n : Nat} {v : Value} {us : List Value} (h : w.ownsRow base e size v n us) (hb : base' ≤ base) : w.ownsRow base' e size v n us := by
  refine ⟨h.1, ?_⟩
  rcases h.2 with h2 | ⟨g', cap, cur, rfl, h1, h3⟩
  · exact .inl h2
  · exact .inr ⟨g', cap, cur, rfl, by omega, h3⟩
theorem own_row_block {w : World} {base e size n : Nat} {v : Value} {us : List Value} (h : w.ownsRow base e size v n us) (j : Nat) (hj : v.ownBlock = some j) : base ≤ j := by
  rcases h.2 with ⟨rfl, _⟩ | ⟨g', cap, cur, rfl, h1, h3⟩
  · cases hj
  · simp [Value.ownBlock] at hj; omega
theorem own_row_blk {w : World} {base e size n : Nat} {v : Value} {us : List Value} (h : w.ownsRow base e size v n us) (hn : 0 < n) : ∃ g cap cur, v = .slice (some ⟨g, 0, none⟩) n cap ∧ base ≤ g ∧ Blk w g e cur ∧ cur.toList.take (n * size) = us := by
  rcases h.2 with ⟨_, h0⟩ | ⟨g', cap, cur, rfl, h1, hc, _, _, _, ht⟩
  · omega
  · exact ⟨g', cap, cur, rfl, h1, hc, ht⟩
theorem nzT_high {h : Nat → Int} {q : Int} : ∀ (n : Nat) (c : Int), 0 ≤ c → c + 256 * n ≤ 1099511627776 → c ≤ (nzT h q n c).2.1 ∧ (nzT h q n c).2.1 ≤ c + 256 * n
  | 0, c, _, _ => by rw [nzT]; simp
  | n + 1, c, h0, h1 => by
    obtain ⟨l1, l2⟩ := numT_low (h := h) (q := q) 256 c 0 (by omega)
    obtain ⟨r1, r2⟩ := numT_range (h := h) (q := q) 256 c 0 h0 (by omega)
    by_cases hz : (numT h q 256 c 0).1 = 0
    · rw [nzT_next l1 hz]
      have := nzT_high (h := h) (q := q) n (numT h q 256 c 0).2.1 (by omega) (by omega)
      omega
    · rw [nzT_num l1 hz]
      dsimp only
      omega
theorem nzn_ex (h : Nat → Int) (c : Int) (h0 : 0 ≤ c) (h1 : c ≤ 1000000) : ∃ n c', nznV h c 11 = .tuple #[drw h c', .int .i64 n, .int .i64 0] ∧ 1 ≤ n ∧ n < 11 ∧ 0 ≤ c' ∧ c' ≤ c + 65536 := by
  have hk : chkE c 11 2 2305843009213693951 = 0 := chk_iff.2 ⟨⟨h0, by omega⟩, by omega, by omega⟩
  obtain ⟨l1, l2, _⟩ := nzT_low (h := h) (q := 11) (by omega) 256 c h0 (by omega)
  obtain ⟨r1, r2⟩ := nzT_high (h := h) (q := 11) 256 c h0 (by omega)
  refine ⟨_, _, by rw [nznV, if_pos hk, l1]; rfl, l2.1, l2.2, by omega, by omega⟩
theorem key_ex (n : Int) (w : World) (hT : Tab w) (h0 : 1 ≤ n) (h1 : n < 11) : Calls Tryz.prog 124 #[bas 23 11 4 2 3 6, .int .i64 n] w fun e w' => e = .returned (.tuple #[bkey (pwi 23 4 n) (pwi 23 2 n) (pwi 23 3 n), .int .i64 0]) ∧ Up w w' := by
  have h := resKey_any 23 11 4 2 3 6 n w (by omega) (by omega) hT
  rw [show bvB 23 11 4 2 3 6 = true by decide +kernel, show nzB 11 n = true from nzB_iff.2 ⟨h0, h1⟩] at h
  exact h

theorem infoDN : (Tryz.prog.info? 109).map (fun i => (i.zero, i.size, i.bytes)) = some (some (.agg #[.int .i64 0, .int .i64 0]), 2, 16) := by kernel_rfl
theorem cloneD_two (v d v2 d2 : Int) (b : Nat) (w : World) (hb : Blk w b 109 #[.int .i64 v, .int .i64 d, .int .i64 v2, .int .i64 d2]) : Calls Tryz.prog 122 #[.slice (some ⟨b, 0, none⟩) 2 2] w fun e w' => ∃ v', e = .returned v' ∧ w'.ownsRow w.heap.size 109 2 v' 2 [.int .i64 v, .int .i64 d, .int .i64 v2, .int .i64 d2] ∧ Up w w' := by
  have HB := hid hb
  have hnil := fun (w : World) => Lib.run_eql_slice_nil (P := Tryz.prog) w 110 109 (some ⟨b, 0, none⟩) 2 2 0 0 Tryz.underlying110
  have h0 : (w.alloc (.cells #[] 109)).ownsRow w.heap.size 109 2 (.slice (some ⟨w.heap.size, 0, none⟩) 0 0) 0 [] := ⟨by simp, .inr ⟨w.heap.size, 0, #[], rfl, Nat.le_refl _, Blk.new rfl rfl, by simp, by unfold maxLen; omega, by simp, by simp⟩⟩
  have H0 := hid h0
  obtain ⟨i0, hi, hz0, hz1, hz2⟩ := info_parts infoDN
  clear hb h0
  go_enter Tryz.func122, Tryz.ntmps122
  go_wp2_with (at_builtin; refine wpList_append_own _ rfl _ _ 110 rfl w.heap.size 109 i0 _ 2 16 Tryz.underlying110 hi hz0 hz1 hz2 rfl (by decide) _ 0 [] rfl H0.out ⟨b, 0, none⟩ 2 2 [.int .i64 v, .int .i64 d, .int .i64 v2, .int .i64 d2] rfl rfl (fun j u hj => by have hq := (HB.out.up ((Up.refl w).alloc (.cells #[] 109))).read j; rw [Addr.add_lit, Nat.zero_add, hq]; simpa using hj) (fun u hu => by simp only [List.mem_cons, List.not_mem_nil, or_false] at hu; rcases hu with rfl | rfl | rfl | rfl <;> rfl) (by unfold maxLen; omega) (by omega) (by simp) ?_; intro v1 w1 hO1 hg1 _)
  have hU1 : Up w w1 := up_grown ((Up.refl w).alloc (.cells #[] 109)) hg1 (fun k hk => by cases hk; exact Nat.le_refl _)
  rw [List.nil_append] at hO1
  go_wp2
  go_ret
  exact ⟨v1, rfl, hO1, hU1⟩

def exV (i : Nat) : Int := if i = 0 then 1 else if i = 1 then 4 else 0
def exD (i : Nat) : Int := if i = 1 then 2 else 0
def exR (i : Nat) (rs : List Rec) : Prop := rs.length = i ∧ ∀ j, j < i → ∃ ka kb kc, rs[j]? = some ⟨1, 5, j, exV j, exD j, ka, kb, kc, 10, 20, 30⟩
theorem exR.app {i : Nat} {rs : List Rec} (h : exR i rs) (ka kb kc : Int) : exR (i + 1) (rs ++ [⟨1, 5, i, exV i, exD i, ka, kb, kc, 10, 20, 30⟩]) := by
  obtain ⟨h1, h2⟩ := h
  refine ⟨by simp [h1], fun j hj => ?_⟩
  by_cases hji : j < i
  · obtain ⟨a, b, c, he⟩ := h2 j hji
    exact ⟨a, b, c, by rw [List.getElem?_append_left (by omega)]; exact he⟩
  · obtain rfl : j = i := by omega
    exact ⟨ka, kb, kc, by rw [List.getElem?_append_right (by omega), h1]; simp⟩
theorem ex_cells {cur : Array Value} (h : cur.toList.take 6 = [.int .i64 1, .int .i64 0, .int .i64 4, .int .i64 2, .int .i64 0, .int .i64 0]) {i : Nat} (hi : i < 3) : cur[i * 2]? = some (.int .i64 (exV i)) ∧ cur[i * 2 + 1]? = some (.int .i64 (exD i)) := by
  have e : ∀ j, j < 6 → cur[j]? = [Value.int .i64 1, .int .i64 0, .int .i64 4, .int .i64 2, .int .i64 0, .int .i64 0][j]? := fun j hj => by
    rw [← h, List.getElem?_take, if_pos hj, Array.getElem?_toList]
  have : i = 0 ∨ i = 1 ∨ i = 2 := by omega
  rcases this with rfl | rfl | rfl
  · exact ⟨e 0 (by omega), e 1 (by omega)⟩
  · exact ⟨e 2 (by omega), e 3 (by omega)⟩
  · exact ⟨e 4 (by omega), e 5 (by omega)⟩

/-- What Make returns at the example. -/
def MakeOut (w : World) (e : Ending) (w' : World) : Prop :=
  (∃ a c a2 c2 D rs, e = .returned (.tuple #[.slice a 3 c, .slice a2 3 c2, .agg D, .int .i64 0]) ∧ D.size = 33 ∧ D.all (·.oneCell') = true ∧ exR 3 rs ∧ OwnR 112 w' w.heap.size (.slice a 3 c) rs) ∧ Up w w'
theorem eMake_ex (b : Nat) (w : World) (hT : Tab w) (hS : TabS w) (hb : Blk w b 109 #[.int .i64 1, .int .i64 0, .int .i64 4, .int .i64 2]) :
    Calls Tryz.prog 61 #[bas 23 11 4 2 3 6, .int .i64 1, .int .i64 5, .slice (some ⟨b, 0, none⟩) 2 2, .int .i64 10, .int .i64 20, .int .i64 30, drw zeroH 0] w (MakeOut w) := by
  have HB := hid hb
  have hZ : Byt zeroH := fun i => by simp [zeroH]
  have M0 := hid (fun w' (hU : Up w w') => bValid_any 23 11 4 2 3 6 w' (by omega) (by omega) (hT.up hU))
  rw [show bvB 23 11 4 2 3 6 = true by decide +kernel] at M0
  have M1 := hid (fun w' (hU : Up w w') => denValid_two 1 0 4 2 b w' (hb.up hU) (by decide +kernel) (by decide +kernel) (by omega))
  have M2 := hid (fun w' => draValid_any zeroH 0 w')
  rw [show dvB 0 = true by decide +kernel] at M2
  have M3 := hid (fun w' => eNumbers_any 1 5 10 20 30 w')
  rw [show enB 1 5 10 20 30 = true by decide +kernel] at M3
  have M4 := hid (fun w' (hU : Up w w') => cloneD_two 1 0 4 2 b w' (hb.up hU))
  have M5 := hid (fun c w' (hU : Up w w') => Nonzero_any zeroH c 11 w' (hS.up hU) hZ)
  have HN := hid (nzn_ex zeroH)
  have M6 := hid (fun n (h0 : 1 ≤ n) (h1 : n < 11) w' (hU : Up w w') => key_ex n w' (hT.up hU) h0 h1)
  obtain ⟨o, ho⟩ : ∃ o, w.heap.size = o := ⟨_, rfl⟩
  have HO := hid ho
  obtain ⟨o1, ho1⟩ : ∃ o1, o + 1 = o1 := ⟨_, rfl⟩
  have HO1 := hid ho1
  obtain ⟨o2, ho2⟩ : ∃ o2, o1 + 1 = o2 := ⟨_, rfl⟩
  have HO2 := hid ho2
  have HSz := hid (sizeDrw zeroH 0)
  have HD0 : Hid (∃ D, drwA zeroH 0 = D) := hid ⟨_, rfl⟩
  unfold drw at M2 ⊢
  clear hT hS hb hZ ho ho1 ho2
  go_enter Tryz.func61, Tryz.ntmps61
  go_wp2_with fail
  refine (M0.out _ ((((Up.refl w).alloc _).alloc _).alloc _)).mono ?_
  rintro e w1 ⟨rfl, hU1⟩
  have HA1 := hid (((Blk.new (w := w) (g := o) (t := 49) (cs := #[.int .i64 23, .int .i64 11, .int .i64 4, .int .i64 2, .int .i64 3, .int .i64 6]) HO.out rfl).up (((Up.refl _).alloc _).alloc _)).up hU1)
  have HD1 := hid (((Blk.new (g := o1) (t := 105) (cs := drwA zeroH 0) (by have := HO.out; have := HO1.out; have := HO2.out; simp; omega) rfl).up ((Up.refl _).alloc _)).up hU1)
  have HZ1 := hid (((Blk.new (g := o2) (t := 105) (by have := HO.out; have := HO1.out; have := HO2.out; simp; omega) zero33)).up hU1)
  have HU1 := hid (((((Up.refl w).alloc _).alloc _).alloc _).trans hU1)
  clear hU1
  rw [HO.out, HO1.out, HO2.out]
  have c0 := HA1.out.val (i := 0) rfl
  have c1 := HA1.out.val (i := 1) rfl
  have c2 := HA1.out.val (i := 2) rfl
  have c3 := HA1.out.val (i := 3) rfl
  have c4 := HA1.out.val (i := 4) rfl
  have c5 := HA1.out.val (i := 5) rfl
  go_wp2_with fail
  refine (M1.out _ (HU1.out)).mono ?_
  rintro e w2 ⟨rfl, hU2⟩
  have HA2 := hid (HA1.out.up hU2)
  have HD2 := hid (HD1.out.up hU2)
  have HZ2 := hid (HZ1.out.up hU2)
  have HU2 := hid (HU1.out.trans hU2)
  clear hU2 HA1 HD1 HZ1 HU1 c0 c1 c2 c3 c4 c5
  have c0 := HA2.out.val (i := 0) rfl
  have c1 := HA2.out.val (i := 1) rfl
  have c2 := HA2.out.val (i := 2) rfl
  have c3 := HA2.out.val (i := 3) rfl
  have c4 := HA2.out.val (i := 4) rfl
  have c5 := HA2.out.val (i := 5) rfl
  go_wp2_with (first | refine wpList_load_row rfl 105 _ rfl o1 rfl 105 (drwA zeroH 0) (0, 0) _ HD2.out Tryz.underlying105 rfl (sizeDrw _ _) ?_ | refine wpList_load_rowG (by rfl) 105 _ rfl o1 rfl 105 (drwA zeroH 0) (0, 0) _ HD2.out Tryz.underlying105 rfl (sizeDrw _ _) ?_)
  refine (M2.out _).mono ?_
  rintro e w3 ⟨rfl, hU3⟩
  have HA3 := hid (HA2.out.up hU3)
  have HD3 := hid (HD2.out.up hU3)
  have HZ3 := hid (HZ2.out.up hU3)
  have HU3 := hid (HU2.out.trans hU3)
  clear hU3 HA2 HD2 HZ2 HU2 c0 c1 c2 c3 c4 c5
  have c0 := HA3.out.val (i := 0) rfl
  have c1 := HA3.out.val (i := 1) rfl
  have c2 := HA3.out.val (i := 2) rfl
  have c3 := HA3.out.val (i := 3) rfl
  have c4 := HA3.out.val (i := 4) rfl
  have c5 := HA3.out.val (i := 5) rfl
  go_wp2_with fail
  refine (M3.out _).mono ?_
  rintro e w4 ⟨rfl, hU4⟩
  have HA4 := hid (HA3.out.up hU4)
  have HD4 := hid (HD3.out.up hU4)
  have HZ4 := hid (HZ3.out.up hU4)
  have HU4 := hid (HU3.out.trans hU4)
  clear hU4 HA3 HD3 HZ3 HU3 c0 c1 c2 c3 c4 c5
  have c0 := HA4.out.val (i := 0) rfl
  have c1 := HA4.out.val (i := 1) rfl
  have c2 := HA4.out.val (i := 2) rfl
  have c3 := HA4.out.val (i := 3) rfl
  have c4 := HA4.out.val (i := 4) rfl
  have c5 := HA4.out.val (i := 5) rfl
  go_wp2_with fail
  refine (M4.out _ HU4.out).mono ?_
  rintro e w5 ⟨v5, rfl, hO5, hU5⟩
  have HA5 := hid (HA4.out.up hU5)
  have HD5 := hid (HD4.out.up hU5)
  have HZ5 := hid (HZ4.out.up hU5)
  have HU5 := hid (HU4.out.trans hU5)
  have hO5a := ownsRow_mono hO5 (base' := o2 + 1) (by have := HZ4.out.lt; omega)
  have hs5 : o2 < w5.heap.size := HZ5.out.lt
  obtain ⟨i0, hi0, hz0, hz1, hz2⟩ := info_parts infoDN
  clear hU5 hO5 HA4 HD4 HZ4 HU4
  go_wp2_with (at_builtin; refine wpList_append_own _ rfl _ _ 110 rfl (o2 + 1) 109 i0 _ 2 16 Tryz.underlying110 hi0 hz0 hz1 hz2 rfl (by decide) _ 2 _ rfl (ownsRow_later hO5a ((Up.refl w5).alloc (.cells #[.int .i64 0, .int .i64 0] 109))) ⟨w5.heap.size, 0, none⟩ 1 1 [.int .i64 0, .int .i64 0] rfl rfl (fun j u hj => by have hq := (Blk.new (w := w5) (g := w5.heap.size) (t := 109) (cs := #[.int .i64 0, .int .i64 0]) rfl rfl).read j; rw [Addr.add_lit, Nat.zero_add, hq]; simpa using hj) (fun u hu => by simp only [List.mem_cons, List.not_mem_nil, or_false] at hu; rcases hu with rfl | rfl <;> rfl) (by unfold maxLen; omega) (by omega) (by simp; omega) ?_; intro v6 w6 hO6 hg6 _; have hB6 := Below.grown (Below.refl (o2 + 1) _) hg6 (by simp; omega) (fun j hj => own_row_block hO5a j hj); obtain ⟨g, cap, cur, rfl, hgb, hG6, hcur⟩ := own_row_blk hO6 (by omega))
  have hA6 := (HA5.out.up ((Up.refl w5).alloc (.cells #[.int .i64 0, .int .i64 0] 109))).below hB6 (by have := HO1.out; have := HO2.out; omega)
  have hD6 := (HD5.out.up ((Up.refl w5).alloc (.cells #[.int .i64 0, .int .i64 0] 109))).below hB6 (by have := HO2.out; omega)
  have hZ6 := (HZ5.out.up ((Up.refl w5).alloc (.cells #[.int .i64 0, .int .i64 0] 109))).below hB6 (by omega)
  have HU6 := hid (up_below (HU5.out.alloc (.cells #[.int .i64 0, .int .i64 0] 109)) hB6 (by have := HO.out; have := HO1.out; have := HO2.out; omega))
  have HA6 := hid hA6
  have HD6 := hid hD6
  have HZ6 := hid hZ6
  have HG6 := hid hG6
  have HC := hid (fun i hi => ex_cells hcur (i := i) hi)
  obtain ⟨B, hBs⟩ : ∃ B, w6.heap.size = B := ⟨_, rfl⟩
  have HBs := hid hBs
  have lB2 : o2 < B := by rw [← hBs]; exact HZ6.out.lt
  have lBg : g < B := by rw [← hBs]; exact HG6.out.lt
  have n12 : o1 < o2 := by have := HO2.out; omega
  have n01 : o < o1 := by have := HO1.out; omega
  have hlw : w.heap.size ≤ o := by have := HO.out; omega
  have hg2 : o2 < g := by omega
  clear hA6 hD6 hZ6 hG6 hcur hB6 hg6 hO6 hO5a HA5 HD5 HZ5 HU5 hBs hgb hs5
  go_loopw [16, 17, 55] (fun v1 v2 vi wr => ∃ (i : Nat) (rs : List Rec) (ss : List Int) (c : Int), i ≤ 3 ∧ vi = .int .i64 i ∧ Hid (exR i rs) ∧ Hid (ss.length = i) ∧ Hid (OwnR 112 wr B v1 rs) ∧ Hid (OwnS 3 .i64 wr B v2 ss) ∧ Hid (0 ≤ c ∧ c ≤ 65536 * i) ∧ Hid (Blk wr o 49 #[.int .i64 23, .int .i64 11, .int .i64 4, .int .i64 2, .int .i64 3, .int .i64 6]) ∧ Hid (Blk wr o1 105 (drwA zeroH c)) ∧ Hid (Blk wr o2 105 (drwA zeroH 0)) ∧ Hid (Blk wr g 109 cur) ∧ Hid (Up w wr) ∧ Hid (B ≤ wr.heap.size)) (fun _ _ vi _ => 3 - (intOf vi).toNat)
  case atStart => exact ⟨0, [], [], 0, by omega, rfl, hid ⟨rfl, fun j hj => by omega⟩, hid rfl, hid ownR_none, hid own_none, hid ⟨by omega, by omega⟩, HA6, HD6, HZ6, HG6, HU6, hid (by rw [HBs.out]; exact Nat.le_refl _)⟩
  case round =>
    clear HA6 HD6 HZ6 HG6 HU6 HBs
    obtain ⟨i, rs, ss, c, hi, rfl, HR, HSl, HOR, HOS, HCc, HA, HD, HZ, HG, HU, HBr⟩ := hrel
    by_cases hl : i < 3
    · have q0 := HG.out.val (HC.out i hl).1
      have q1 := HG.out.val (HC.out i hl).2
      have HRn := hid (fun ka kb kc => HR.out.app ka kb kc)
      obtain ⟨n, c', hV, n0, n1, c0, c1⟩ := HN.out c HCc.out.1 (by have := HCc.out; omega)
      have HM5 := hid (fun w' hU => M5.out c w' hU)
      rw [hV] at HM5
      have HM6 := hid (M6.out n n0 n1)
      have HCn : Hid (0 ≤ c' ∧ c' ≤ 65536 * ((i + 1 : Nat) : Int)) := hid ⟨c0, by have := HCc.out; omega⟩
      have e1 : decide ((i : Int) < 3) = true := by simp; omega
      clear hV n0 n1 c0 c1
      generalize exV i = x at *
      generalize exD i = y at *
      unfold drw at HM5
      obtain ⟨rv, rc, rfl⟩ := HOR.out.shape
      obtain ⟨sv, sc, rfl, _⟩ := HOS.out.shape
      have hS1 := HA.out.val (i := 1) rfl
      have hgr : g < wr.heap.size := HG.out.lt
      have hor : o < wr.heap.size := HA.out.lt
      go_wp2_with (first | refine wpList_load_row rfl 105 _ rfl o1 rfl 105 (drwA zeroH c) (0, 0) _ (HD.out.up ((Up.refl wr).alloc _)) Tryz.underlying105 rfl (sizeDrw _ _) ?_ | refine wpList_load_rowG (by rfl) 105 _ rfl o1 rfl 105 (drwA zeroH c) (0, 0) _ (HD.out.up ((Up.refl wr).alloc _)) Tryz.underlying105 rfl (sizeDrw _ _) ?_)
      refine (HM5.out _ (HU.out.alloc _)).mono ?_
      rintro e w1 ⟨rfl, hU1⟩
      have HX1 := hid ((Blk.new (w := wr) (g := wr.heap.size) (t := 109) (cs := #[.int .i64 x, .int .i64 y]) rfl rfl).up hU1)
      have hUp := ((Up.refl wr).alloc (.cells #[.int .i64 x, .int .i64 y] 109)).trans hU1
      have HA1 := hid (HA.out.up hUp)
      have HD1 := hid (HD.out.up hUp)
      have HZ1 := hid (HZ.out.up hUp)
      have HG1 := hid (HG.out.up hUp)
      have HR1 := hid (HOR.out.up hUp)
      have HS1 := hid (HOS.out.up hUp)
      have HU1 := hid (HU.out.trans hUp)
      have HB1 := hid (Nat.le_trans HBr.out hUp.size)
      obtain ⟨od, hod⟩ : ∃ od, wr.heap.size = od := ⟨_, rfl⟩
      have HOd : Hid (B ≤ od) := hid (by rw [← hod]; exact HBr.out)
      rw [hod] at HX1
      rw [hod]
      clear hU1 hUp hod HA HD HZ HG HOR HOS HU HBr hS1 q0 q1 HR HN
      have k0 := (HA1.out.rowApart (k := o1) (by omega) (drwA zeroH c')).val (i := 0) rfl
      have k1 := (HA1.out.rowApart (k := o1) (by omega) (drwA zeroH c')).val (i := 1) rfl
      have k2 := (HA1.out.rowApart (k := o1) (by omega) (drwA zeroH c')).val (i := 2) rfl
      have k3 := (HA1.out.rowApart (k := o1) (by omega) (drwA zeroH c')).val (i := 3) rfl
      have k4 := (HA1.out.rowApart (k := o1) (by omega) (drwA zeroH c')).val (i := 4) rfl
      have k5 := (HA1.out.rowApart (k := o1) (by omega) (drwA zeroH c')).val (i := 5) rfl
      go_wp2_with (refine wpList_store_rowTo rfl 105 _ _ rfl rfl o1 (drwA zeroH c') rfl rfl 105 (drwA zeroH c) HD1.out (sizeDrw _ _) (by rw [drwA_size, drwA_size]) (drwA_one _ _) ?_)
      have HX2 := hid (HX1.out.rowApart (k := o1) (by have := HOd.out; omega) (drwA zeroH c'))
      have HA2 := hid (HA1.out.rowApart (k := o1) (by omega) (drwA zeroH c'))
      have HD2 := hid (HD1.out.row (drwA zeroH c'))
      have HZ2 := hid (HZ1.out.rowApart (k := o1) (by omega) (drwA zeroH c'))
      have HG2 := hid (HG1.out.rowApart (k := o1) (by omega) (drwA zeroH c'))
      have HR2 := hid (HR1.out.row (k := o1) (by omega) (drwA zeroH c'))
      have HS2 := hid (ownS_row HS1.out (k := o1) (by omega) (drwA zeroH c'))
      have HU2 := hid (HU1.out.setRow (g := o1) (by omega) (drwA zeroH c'))
      have HB2 : Hid (B ≤ (w1.setRow o1 (drwA zeroH c')).heap.size) := hid (by have := HD2.out.lt; have := HX2.out.lt; have := HOd.out; omega)
      clear HX1 HA1 HD1 HZ1 HG1 HR1 HS1 HU1 HB1 k0 k1 k2 k3 k4 k5
      generalize w1.setRow o1 (drwA zeroH c') = w2 at *
      refine (HM6.out _ HU2.out).mono ?_
      rintro e w3 ⟨rfl, hU3⟩
      have HX3 := hid (HX2.out.up hU3)
      have HA3 := hid (HA2.out.up hU3)
      have HD3 := hid (HD2.out.up hU3)
      have HZ3 := hid (HZ2.out.up hU3)
      have HG3 := hid (HG2.out.up hU3)
      have HR3 := hid (HR2.out.up hU3)
      have HS3 := hid (HS2.out.up hU3)
      have HU3 := hid (HU2.out.trans hU3)
      have HB3 := hid (Nat.le_trans HB2.out hU3.size)
      clear hU3 HX2 HA2 HD2 HZ2 HG2 HR2 HS2 HU2 HB2
      generalize pwi 23 4 n = X at *
      generalize pwi 23 2 n = Y at *
      generalize pwi 23 3 n = V at *
      have x0 := HX3.out.val (i := 0) rfl
      have x1 := HX3.out.val (i := 1) rfl
      have hlod : od < w3.heap.size := HX3.out.lt
      obtain ⟨W4, hW4⟩ : ∃ W4, (w3.alloc (.cells #[.int .i64 X, .int .i64 Y, .int .i64 V] 51)).alloc (.cells #[.int .i64 1, .int .i64 5, .int .i64 i, .int .i64 x, .int .i64 y, .int .i64 X, .int .i64 Y, .int .i64 V, .int .i64 10, .int .i64 20, .int .i64 30] 112) = W4 := ⟨_, rfl⟩
      have HW4 := hid hW4
      have hUw : Up w3 W4 := by rw [← hW4]; exact ((Up.refl w3).alloc _).alloc _
      have hNB : Blk W4 (w3.heap.size + 1) 112 (epoA 1 5 i x y X Y V 10 20 30) := by rw [← hW4]; exact Blk.new (by simp) rfl
      have HNB := hid hNB
      have HUw := hid hUw
      have HLr : Hid (rs.length ≤ 3) := hid (by have := HRn.out 0 0 0; have := this.1; simp at this; omega)
      have hB4 : B ≤ W4.heap.size := Nat.le_trans HB3.out hUw.size
      clear hW4 hUw hNB
      go_wp2_with (first
        | (rw [HW4.out]; at_builtin; refine wp_appR Tryz.underlying69 rfl _ _ rfl B (news := [⟨1, 5, i, x, y, X, Y, V, 10, 20, 30⟩]) rfl (HR3.out.up HUw.out) (w3.heap.size + 1) 0 1 rfl (fun j hj => by (obtain rfl : j = 0 := (by simp at hj; omega)); exact Blk.recAt HNB.out) (by have := HLr.out; simp; omega) hB4 ?_; intro v5 w5 hO5 hg5; have hB5 := OwnR.below (HR3.out.up HUw.out) hg5 hB4; have hA5 := (HA3.out.up HUw.out).below hB5 (by omega); have hD5 := (HD3.out.up HUw.out).below hB5 (by omega); have hZ5 := (HZ3.out.up HUw.out).below hB5 (by omega); have hG5 := (HG3.out.up HUw.out).below hB5 lBg; have hS5 := (HS3.out.up HUw.out).grown hg5 (ownS_ownR (HS3.out.up HUw.out) (HR3.out.up HUw.out) (by decide)); have hU5 := up_below (HU3.out.trans HUw.out) hB5 (by omega); have hs5 : B ≤ w5.heap.size := Nat.le_trans hB4 hg5.size)
        | (at_builtin; refine wp_app infoInt Tryz.underlying103 (by omega) rfl _ _ rfl B rfl rfl (hS5.up ((Up.refl w5).alloc _)) (seq_new w5 n 3) (by have := HSl.out; simp; omega) (by simp; omega) ?_; intro v6 w6 hO6 hg6; have hB6 := below_own (hS5.up ((Up.refl w5).alloc (.cells #[.int .i64 n] 3))) hg6 (by simp; omega)))
      have HA6 := hid ((hA5.up ((Up.refl w5).alloc (.cells #[.int .i64 n] 3))).below hB6 (by omega))
      have HD6 := hid ((hD5.up ((Up.refl w5).alloc (.cells #[.int .i64 n] 3))).below hB6 (by omega))
      have HZ6 := hid ((hZ5.up ((Up.refl w5).alloc (.cells #[.int .i64 n] 3))).below hB6 (by omega))
      have HG6 := hid ((hG5.up ((Up.refl w5).alloc (.cells #[.int .i64 n] 3))).below hB6 lBg)
      have HR6 := hid ((hO5.up ((Up.refl w5).alloc (.cells #[.int .i64 n] 3))).grown hg6 (ownR_ownS (hO5.up ((Up.refl w5).alloc (.cells #[.int .i64 n] 3))) (hS5.up ((Up.refl w5).alloc (.cells #[.int .i64 n] 3))) (by decide)))
      have HS6 := hid hO6
      have HU6 := hid (up_below (hU5.alloc (.cells #[.int .i64 n] 3)) hB6 (by omega))
      have HB6 : Hid (B ≤ w6.heap.size) := hid (Nat.le_trans hs5 (Nat.le_trans (by simp) hg6.size))
      have HRe := hid (HRn.out X Y V)
      have HSe : Hid ((ss ++ [n]).length = i + 1) := hid (by have := HSl.out; simp; omega)
      clear hO5 hg5 hB5 hA5 hD5 hZ5 hG5 hS5 hU5 hs5 hO6 hg6 hB6 hB4 x0 x1
      go_roundw
      case rel => exact ⟨i + 1, _, _, c', by omega, by go_num, HRe, HSe, HR6, HS6, HCn, HA6, HD6, HZ6, HG6, HU6, HB6⟩
      case measure => simp [intOf]; omega
    · obtain rfl : i = 3 := by omega
      obtain ⟨rv, rc, hrv⟩ := HOR.out.shape
      obtain ⟨sv, sc, hsv, _⟩ := HOS.out.shape
      have hr3 : rs.length = 3 := HR.out.1
      have hs3 : ss.length = 3 := HSl.out
      rw [hr3] at hrv
      rw [hs3] at hsv
      subst hrv hsv
      have HRr := hid (HOR.out.mono (base' := w.heap.size) (by omega))
      clear hr3 hs3
      go_wp2_with fail
      refine region_E (fun w' => Blk w' o1 105 (drwA zeroH c)) 6 (by kernel_rfl) (HD.out.up (Up.refl _).drew) fun hS => ?_
      have hZ0 := HZ.out.up (Up.refl wr).drew
      have hU0 := HU.out.drew
      have hR0 := HRr.out.up (Up.refl wr).drew
      generalize wr.drew = v0 at *
      refine anyE_take (i := 0) (v := ?_) 103 rfl rfl (by kernel_rfl) (by kernel_rfl) (by decide) (fun _ _ _ h => h) (by kernel_rfl) (by kernel_rfl) (.inl ⟨by rfl, fun u hu => ?_⟩) hS ?_
      rotate_left
      · (go_simp; first | done | with_reducible rfl)
      simp only [Act.put, List.setIfInBounds_toArray, List.set_cons_zero, List.set_cons_succ]
      refine anyE_take (i := 1) (v := ?_) 104 rfl rfl (by kernel_rfl) (by kernel_rfl) (by decide) (fun _ _ _ h => h) (by kernel_rfl) (by kernel_rfl) (.inl ⟨by rfl, fun u hu => ?_⟩) hS ?_
      rotate_left
      · (go_simp; first | done | with_reducible rfl)
      simp only [Act.put, List.setIfInBounds_toArray, List.set_cons_zero, List.set_cons_succ]
      refine anyE_take (i := 2) (v := .agg (drwA zeroH c).toList.toArray) 105 rfl rfl (by kernel_rfl) (by kernel_rfl) (by decide) (fun _ _ _ h => h) (by kernel_rfl) (by kernel_rfl) (yieldsIf_load_mid (by rfl) 105 _ rfl o1 0 rfl (drwA zeroH c).toList _ (fun u hu => blk_range hu) Tryz.underlying105 rfl (by rw [Array.length_toList]; exact sizeDrw _ _)) hS ?_
      rw [Array.toArray_toList]
      simp only [Act.put, List.setIfInBounds_toArray, List.set_cons_zero, List.set_cons_succ]
      refine anyE_take (i := 3) (v := ?_) 16 rfl rfl (by kernel_rfl) (by kernel_rfl) (by decide) (fun _ _ _ h => h) (by kernel_rfl) (by kernel_rfl) (.inl ⟨by rfl, fun u hu => ?_⟩) hS ?_
      rotate_left
      · (go_simp; first | done | with_reducible rfl)
      simp only [Act.put, List.setIfInBounds_toArray, List.set_cons_zero, List.set_cons_succ]
      refine anyE_take (i := 4) (v := ?_) 17 rfl rfl (by kernel_rfl) (by kernel_rfl) (by decide) (fun _ _ _ h => h) (by kernel_rfl) (by kernel_rfl) (.inl ⟨by rfl, fun u hu => ?_⟩) hS ?_
      rotate_left
      · (go_simp; first | done | with_reducible rfl)
      simp only [Act.put, List.setIfInBounds_toArray, List.set_cons_zero, List.set_cons_succ]
      refine anyE_one (i := 5) rfl (by kernel_rfl) rfl (fun K hK => ?_)
      refine op_store_row 105 _ _ rfl rfl o2 (drwA zeroH c) rfl rfl 105 (drwA zeroH 0) hZ0 (sizeDrw _ _) (by rw [drwA_size, drwA_size]) (drwA_one _ _) ?_
      have hS2 := hS.rowApart (k := o2) (by omega) (drwA zeroH c)
      refine hK.out _ _ (.inr hS2) ?_
      clear hK
      try simp only [Act.put, List.setIfInBounds_toArray, List.set_cons_zero, List.set_cons_succ]
      refine anyE_one (i := 6) rfl (by kernel_rfl) rfl (fun K hK => ?_)
      go_simp
      refine hK.out _ _ (.inl rfl) (anyE_done (by kernel_rfl) ?_ _)
      clear hK
      go_wp2
      refine bodyPost_ret (results_tmp2_row_tmp Tryz.results61 _ _ o2 105 _ (0, 0) _ (by rfl) (hZ0.row _) Tryz.underlying105 rfl (sizeDrw _ _)) rfl ⟨⟨_, _, _, _, _, _, rfl, drwA_size _ _, drwA_one _ _, HR.out, hR0.rowOther hZ0 (by decide) _⟩, hU0.setRow (by omega) _⟩
end Go.Proofs.YtoaomjdpiealfaaGreatDoor
namespace Go.Proofs.YtoaomjdpiealfaaGreatDoor
open Go.RowKit Go.Sp
set_option maxHeartbeats 4000000
set_option maxRecDepth 20000

theorem ex_three {rs : List Rec} (h : exR 3 rs) : ∃ a0 b0 c0 a1 b1 c1 a2 b2 c2, rs = [⟨1, 5, 0, 1, 0, a0, b0, c0, 10, 20, 30⟩, ⟨1, 5, 1, 4, 2, a1, b1, c1, 10, 20, 30⟩, ⟨1, 5, 2, 0, 0, a2, b2, c2, 10, 20, 30⟩] := by
  obtain ⟨h1, h2⟩ := h
  obtain ⟨a0, b0, c0, e0⟩ := h2 0 (by omega)
  obtain ⟨a1, b1, c1, e1⟩ := h2 1 (by omega)
  obtain ⟨a2, b2, c2, e2⟩ := h2 2 (by omega)
  refine ⟨a0, b0, c0, a1, b1, c1, a2, b2, c2, ?_⟩
  match rs, h1, e0, e1, e2 with
  | [x, y, z], _, e0, e1, e2 =>
    simp only [List.getElem?_cons_zero, List.getElem?_cons_succ, Option.some.injEq] at e0 e1 e2
    rw [e0, e1, e2]
    rfl
theorem awake30 (w : World) (hT : Tab w) (hS : TabS w) : Calls Tryz.prog 22 #[] w fun e w' => e = .returned (.bool true) ∧ Up w w' := by
  have M1 := hid (fun b w' (hU : Up w w') (hb : Blk w' b 109 #[.int .i64 1, .int .i64 0, .int .i64 4, .int .i64 2]) => eMake_ex b w' (hT.up hU) (hS.up hU) hb)
  have N0 := hid (fun a b c w' => eIssues_any 1 5 0 1 0 a b c 10 20 30 10 w')
  rw [show (decide ((10 : Int) ≤ 10) && decide ((10 : Int) < 20)) = true by decide] at N0
  unfold epo epoA at N0
  have N1 := hid (fun a b c w' => eIssues_any 1 5 0 1 0 a b c 10 20 30 19 w')
  rw [show (decide ((10 : Int) ≤ 19) && decide ((19 : Int) < 20)) = true by decide] at N1
  unfold epo epoA at N1
  have N2 := hid (fun a b c w' => eIssues_any 1 5 0 1 0 a b c 10 20 30 20 w')
  rw [show (decide ((10 : Int) ≤ 20) && decide ((20 : Int) < 20)) = false by decide] at N2
  unfold epo epoA at N2
  have N3 := hid (fun a b c w' => eIssues_any 1 5 0 1 0 a b c 10 20 30 9 w')
  rw [show (decide ((10 : Int) ≤ 9) && decide ((9 : Int) < 20)) = false by decide] at N3
  unfold epo epoA at N3
  have N4 := hid (fun a b c w' => eAccepts_any 1 5 0 1 0 a b c 10 20 30 29 w')
  rw [show (decide ((10 : Int) ≤ 29) && decide ((29 : Int) < 30)) = true by decide] at N4
  unfold epo epoA at N4
  have N5 := hid (fun a b c w' => eAccepts_any 1 5 0 1 0 a b c 10 20 30 30 w')
  rw [show (decide ((10 : Int) ≤ 30) && decide ((30 : Int) < 30)) = false by decide] at N5
  unfold epo epoA at N5
  have HZ := zero33
  clear hT hS
  go_enter Tryz.func22, Tryz.ntmps22
  unfold drw at M1
  rw [← HZ] at M1
  clear HZ
  go_wp2_with fail
  refine (M1.out _ _ (((Up.refl w).alloc _).alloc _) (Blk.new (by simp) rfl)).mono ?_
  rintro e w1 ⟨⟨a, c, a2, c2, D, rs, rfl, hD, hD1, hR, hO⟩, hU1⟩
  have HU1 := hid ((((Up.refl w).alloc _).alloc _).trans hU1)
  obtain ⟨a0, b0, c0, a1, b1, c1, a2', b2, c2', rfl⟩ := ex_three hR
  obtain ⟨g, cap, cur, hv, hg, hG, _⟩ := own_row_blk hO (by simp)
  injection hv with h1 h2 h3
  subst h1 h3
  have hq := fun j hj => World.ownsRow.cellAt hO j hj
  obtain ⟨w2, hw2⟩ : ∃ w2, w1.alloc (.cells D 105) = w2 := ⟨_, rfl⟩
  have HW2 := hid hw2
  have hUw : Up w1 w2 := by rw [← hw2]; exact (Up.refl w1).alloc _
  have hgl : g < w1.heap.size := hG.lt
  have hq2 := fun j (hj : j < 33) => (hUw.cell (a := ⟨g, j, none⟩) hgl).trans (hq j hj)
  have q0 : w2.cell? ⟨g, 0, none⟩ = some (.int .i64 1) := hq2 0 (by omega)
  have q1 : w2.cell? ⟨g, 1, none⟩ = some (.int .i64 5) := hq2 1 (by omega)
  have q2 : w2.cell? ⟨g, 2, none⟩ = some (.int .i64 0) := hq2 2 (by omega)
  have q3 : w2.cell? ⟨g, 3, none⟩ = some (.int .i64 1) := hq2 3 (by omega)
  have q4 : w2.cell? ⟨g, 4, none⟩ = some (.int .i64 0) := hq2 4 (by omega)
  have q5 : w2.cell? ⟨g, 5, none⟩ = some (.int .i64 a0) := hq2 5 (by omega)
  have q6 : w2.cell? ⟨g, 6, none⟩ = some (.int .i64 b0) := hq2 6 (by omega)
  have q7 : w2.cell? ⟨g, 7, none⟩ = some (.int .i64 c0) := hq2 7 (by omega)
  have q8 : w2.cell? ⟨g, 8, none⟩ = some (.int .i64 10) := hq2 8 (by omega)
  have q9 : w2.cell? ⟨g, 9, none⟩ = some (.int .i64 20) := hq2 9 (by omega)
  have q10 : w2.cell? ⟨g, 10, none⟩ = some (.int .i64 30) := hq2 10 (by omega)
  have q14 : w2.cell? ⟨g, 14, none⟩ = some (.int .i64 4) := hq2 14 (by omega)
  have q15 : w2.cell? ⟨g, 15, none⟩ = some (.int .i64 2) := hq2 15 (by omega)
  have q24 : w2.cell? ⟨g, 24, none⟩ = some (.int .i64 2) := hq2 24 (by omega)
  have q25 : w2.cell? ⟨g, 25, none⟩ = some (.int .i64 0) := hq2 25 (by omega)
  have q26 : w2.cell? ⟨g, 26, none⟩ = some (.int .i64 0) := hq2 26 (by omega)
  have HU2a := hid (HU1.out.trans hUw)
  have HDz : Hid ((Tryz.prog.info? 105).map (·.size) = some D.size) := hid (by rw [hD]; kernel_rfl)
  have HD := hid hD
  have HD1 := hid hD1
  have hgl2 : g < w2.heap.size := Nat.lt_of_lt_of_le hgl hUw.size
  clear hq hq2 hw2 hUw hR hO hU1 hD hD1 h2 hG hg hgl HU1 M1
  go_wp2_with (refine wpList_store_rowTo rfl 105 _ _ rfl rfl _ D rfl rfl 105 _ (heap_alloc_new _ _) HDz.out (by rw [HD.out]; rfl) HD1.out ?_; rw [World.setRow_alloc_new, HW2.out])
  refine (N0.out _ _ _ _).mono ?_
  rintro e w1 ⟨rfl, hU1⟩
  have HR1 := hid ((Blk.new (w := w2) (t := 112) (cs := #[.int .i64 1, .int .i64 5, .int .i64 0, .int .i64 1, .int .i64 0, .int .i64 a0, .int .i64 b0, .int .i64 c0, .int .i64 10, .int .i64 20, .int .i64 30]) rfl rfl).up hU1)
  have HU1 := hid (((Up.refl w2).alloc _).trans hU1)
  clear hU1
  clear q0 q1 q2 q3 q4 q5 q6 q7 q8 q9 q10 q14 q15 q24 q25 q26
  have r0 := HR1.out.val (i := 0) rfl
  have r1 := HR1.out.val (i := 1) rfl
  have r2 := HR1.out.val (i := 2) rfl
  have r3 := HR1.out.val (i := 3) rfl
  have r4 := HR1.out.val (i := 4) rfl
  have r5 := HR1.out.val (i := 5) rfl
  have r6 := HR1.out.val (i := 6) rfl
  have r7 := HR1.out.val (i := 7) rfl
  have r8 := HR1.out.val (i := 8) rfl
  have r9 := HR1.out.val (i := 9) rfl
  have r10 := HR1.out.val (i := 10) rfl
  go_wp2_with fail
  refine (N1.out _ _ _ _).mono ?_
  rintro e w2 ⟨rfl, hU2⟩
  have HR2 := hid (HR1.out.up hU2)
  have HU2 := hid (HU1.out.trans hU2)
  clear hU2 HR1 HU1 r0 r1 r2 r3 r4 r5 r6 r7 r8 r9 r10
  have r0 := HR2.out.val (i := 0) rfl
  have r1 := HR2.out.val (i := 1) rfl
  have r2 := HR2.out.val (i := 2) rfl
  have r3 := HR2.out.val (i := 3) rfl
  have r4 := HR2.out.val (i := 4) rfl
  have r5 := HR2.out.val (i := 5) rfl
  have r6 := HR2.out.val (i := 6) rfl
  have r7 := HR2.out.val (i := 7) rfl
  have r8 := HR2.out.val (i := 8) rfl
  have r9 := HR2.out.val (i := 9) rfl
  have r10 := HR2.out.val (i := 10) rfl
  go_wp2_with fail
  refine (N2.out _ _ _ _).mono ?_
  rintro e w3 ⟨rfl, hU3⟩
  have HR3 := hid (HR2.out.up hU3)
  have HU3 := hid (HU2.out.trans hU3)
  clear hU3 HR2 HU2 r0 r1 r2 r3 r4 r5 r6 r7 r8 r9 r10
  have r0 := HR3.out.val (i := 0) rfl
  have r1 := HR3.out.val (i := 1) rfl
  have r2 := HR3.out.val (i := 2) rfl
  have r3 := HR3.out.val (i := 3) rfl
  have r4 := HR3.out.val (i := 4) rfl
  have r5 := HR3.out.val (i := 5) rfl
  have r6 := HR3.out.val (i := 6) rfl
  have r7 := HR3.out.val (i := 7) rfl
  have r8 := HR3.out.val (i := 8) rfl
  have r9 := HR3.out.val (i := 9) rfl
  have r10 := HR3.out.val (i := 10) rfl
  go_wp2_with fail
  refine (N3.out _ _ _ _).mono ?_
  rintro e w4 ⟨rfl, hU4⟩
  have HR4 := hid (HR3.out.up hU4)
  have HU4 := hid (HU3.out.trans hU4)
  clear hU4 HR3 HU3 r0 r1 r2 r3 r4 r5 r6 r7 r8 r9 r10
  have r0 := HR4.out.val (i := 0) rfl
  have r1 := HR4.out.val (i := 1) rfl
  have r2 := HR4.out.val (i := 2) rfl
  have r3 := HR4.out.val (i := 3) rfl
  have r4 := HR4.out.val (i := 4) rfl
  have r5 := HR4.out.val (i := 5) rfl
  have r6 := HR4.out.val (i := 6) rfl
  have r7 := HR4.out.val (i := 7) rfl
  have r8 := HR4.out.val (i := 8) rfl
  have r9 := HR4.out.val (i := 9) rfl
  have r10 := HR4.out.val (i := 10) rfl
  go_wp2_with fail
  refine (N4.out _ _ _ _).mono ?_
  rintro e w5 ⟨rfl, hU5⟩
  have HR5 := hid (HR4.out.up hU5)
  have HU5 := hid (HU4.out.trans hU5)
  clear hU5 HR4 HU4 r0 r1 r2 r3 r4 r5 r6 r7 r8 r9 r10
  have r0 := HR5.out.val (i := 0) rfl
  have r1 := HR5.out.val (i := 1) rfl
  have r2 := HR5.out.val (i := 2) rfl
  have r3 := HR5.out.val (i := 3) rfl
  have r4 := HR5.out.val (i := 4) rfl
  have r5 := HR5.out.val (i := 5) rfl
  have r6 := HR5.out.val (i := 6) rfl
  have r7 := HR5.out.val (i := 7) rfl
  have r8 := HR5.out.val (i := 8) rfl
  have r9 := HR5.out.val (i := 9) rfl
  have r10 := HR5.out.val (i := 10) rfl
  go_wp2_with fail
  refine (N5.out _ _ _ _).mono ?_
  rintro e w6 ⟨rfl, hU6⟩
  have HR6 := hid (HR5.out.up hU6)
  have HU6 := hid (HU5.out.trans hU6)
  clear hU6 HR5 HU5 r0 r1 r2 r3 r4 r5 r6 r7 r8 r9 r10
  have r0 := HR6.out.val (i := 0) rfl
  have r1 := HR6.out.val (i := 1) rfl
  have r2 := HR6.out.val (i := 2) rfl
  have r3 := HR6.out.val (i := 3) rfl
  have r4 := HR6.out.val (i := 4) rfl
  have r5 := HR6.out.val (i := 5) rfl
  have r6 := HR6.out.val (i := 6) rfl
  have r7 := HR6.out.val (i := 7) rfl
  have r8 := HR6.out.val (i := 8) rfl
  have r9 := HR6.out.val (i := 9) rfl
  have r10 := HR6.out.val (i := 10) rfl
  go_wp2
  go_ret
  exact ⟨rfl, HU2a.out.trans HU6.out⟩
end Go.Proofs.YtoaomjdpiealfaaGreatDoor
