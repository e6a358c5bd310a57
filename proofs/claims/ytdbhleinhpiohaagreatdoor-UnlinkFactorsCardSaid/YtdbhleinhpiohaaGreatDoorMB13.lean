/- Package digest: the number of a digest. A region that draws its order and ends in a store: what the loads read is kept as far as the last operation, which waits for all others. Over any program. Package restrict: the challenge of a coin. Restrictive signatures: which are right. The reference's SHA-256: numbers in bytes, the padded form, the constants. -/
import Derived.Test.YtdbhleinhpiohaaGreatDoorMB12
import Derived.Test.YtdbhleinhpiohaaGreatDoorMB2
import Derived.Test.YtdbhleinhpiohaaGreatDoorMB8
import Derived.Test.YtdbhleinhpiohaaGreatDoorMB9
import Derived.Test.YtdbhleinhpiohaaGreatDoorMB11
import Derived.Deep.RegionHeld3
import Derived.Deep.RegionLaw
import Derived.Deep.DrawnRows
namespace Go.Proofs.YtdbhleinhpiohaaGreatDoor
open Go.RowKit Go.Sp
set_option maxHeartbeats 2000000
set_option maxRecDepth 20000

theorem Number_ok (h : Nat → Int) (m : Int) (w : World) (hB : Byt h) (m0 : 1 ≤ m) (m1 : m < 2305843009213693952) :
    Calls Tryz.prog 43 #[hashV h, .int .i64 m] w fun e w' => e = .returned (.tuple #[.int .i64 (numH h m), .int .i64 0]) ∧ Up w w' := by
  have hget := fun i (hi : i < 32) => arrK_get (k := .u8) (f := h) hi
  unfold hashV
  generalize arrK .u8 h 32 = cs at *
  have HG := hid hget
  have HB := hid hB
  have HN : Hid (numH h m = numB h m 16) := hid rfl
  clear hget hB
  have d0 : decide (m < 1) = false := by simp; omega
  have d1 : decide (m ≥ 2305843009213693952) = false := by simp; omega
  have dm : (m == 0) = false := by simp; omega
  go_enter Tryz.func43, Tryz.ntmps43
  go_wp2_with fail
  have HB0 := hid (Blk.new (w := w) (t := 31) (cs := cs) rfl rfl)
  have HU0 := hid ((Up.refl w).alloc (.cells cs 31))
  obtain ⟨o, ho⟩ : ∃ o, w.heap.size = o := ⟨_, rfl⟩
  rw [ho] at HB0
  rw [ho]
  clear ho
  go_loopw [6, 17] (fun vx vi wr => ∃ i : Nat, i ≤ 16 ∧ vi = .int .i64 i ∧ vx = .int .i64 (numB h m i) ∧ Hid (Blk wr o 31 cs) ∧ Hid (Up w wr)) (fun _ vi _ => 16 - (intOf vi).toNat)
  case atStart => exact ⟨0, by omega, rfl, rfl, HB0, HU0⟩
  case round =>
    clear HB0 HU0
    obtain ⟨i, hi, rfl, rfl, HBk, HU⟩ := hrel
    by_cases hlt : i < 16
    · have q1 := HBk.out.val (HG.out i (by omega))
      have r3 := HB.out i
      obtain ⟨x0, x1⟩ := numB_range (h := h) (m := m) (by omega) i
      have HS : Hid (numB h m (i + 1) = (numB h m i * 256 + h i) % m) := hid rfl
      generalize numB h m i = x at *
      generalize h i = c at *
      have hc0 := r3.1
      have hc1 := r3.2
      have HX : Hid (0 ≤ x ∧ x < m) := hid ⟨x0, x1⟩
      have di : decide ((i : Int) < 16) = true := by simp; omega
      clear r3
      go_wp2_with fail
      have HX0 : Hid (x = x * 2 ^ 0 % m) := hid (dbl_zero x0 x1).symm
      obtain ⟨wo, rfl⟩ : ∃ wo : World, wo = wr := ⟨_, rfl⟩
      clear x0 x1 q1
      go_loopw [6, 21] (fun vx vj wr => ∃ (j : Nat) (y : Int), j ≤ 8 ∧ vj = .int .i64 j ∧ vx = .int .i64 y ∧ Hid (y = x * 2 ^ j % m) ∧ 0 ≤ y ∧ y < m ∧ Hid (Up wo wr)) (fun _ vj _ => 8 - (intOf vj).toNat)
      case atStart => exact ⟨0, x, by omega, rfl, rfl, HX0, HX.out.1, HX.out.2, hid (Up.refl _)⟩
      case round =>
        obtain ⟨j, y, hj, rfl, rfl, HY, y0, y1, HU2⟩ := hrel
        by_cases hlt2 : j < 8
        · have HA := hid (fun w' => Add_ok y y m w' y0 y1 y0 y1 m1)
          have HY2 : Hid ((y + y) % m = x * 2 ^ (j + 1) % m) := hid (by rw [HY.out]; exact dbl_step x m j)
          have e0 := Int.emod_nonneg (y + y) (show m ≠ 0 by omega)
          have e1 := Int.emod_lt_of_pos (y + y) (show 0 < m by omega)
          go_wp2_with fail
          refine (HA.out _).mono ?_
          rintro e w2 ⟨rfl, hU3⟩
          have HU3 := hid (HU2.out.trans hU3)
          clear hU3 HY HU2 HA
          generalize (y + y) % m = z at *
          go_wp2_with fail
          go_roundw
          case rel => exact ⟨j + 1, z, by omega, by go_num, rfl, HY2, e0, e1, HU3⟩
          case measure => simp [intOf]; omega
        · obtain rfl : j = 8 := by omega
          have e0 := Int.emod_nonneg c (show m ≠ 0 by omega)
          have e1 := Int.emod_lt_of_pos c (show 0 < m by omega)
          have htm : c.tmod m = c % m := Int.tmod_eq_emod_of_nonneg hc0
          have HA := hid (fun w' => Add_ok y (c % m) m w' y0 y1 e0 e1 m1)
          have HZ : Hid ((y + c % m) % m = (x * 256 + c) % m) := hid (by rw [HY.out]; exact num_step x c m)
          go_wp2_with fail
          refine (HA.out _).mono ?_
          rintro e w2 ⟨rfl, hU3⟩
          have HU3 := hid (HU.out.trans (HU2.out.trans hU3))
          have HB3 := hid ((HBk.out.up HU2.out).up hU3)
          clear hU3 HY HU2 HA htm e0 e1
          generalize (y + c % m) % m = z at *
          go_wp2_with fail
          go_roundw
          case rel => exact ⟨i + 1, by omega, by go_num, by rw [HS.out, HZ.out], HB3, HU3⟩
          case measure => simp [intOf]; omega
    · obtain rfl : i = 16 := by omega
      go_wp2
      go_ret2
      exact ⟨by rw [HN.out]; rfl, HU.out⟩
end Go.Proofs.YtdbhleinhpiohaaGreatDoor
namespace Go.Sp
open Go.RowKit

section
variable {P : Program} {ops : Array Oper} {Q : Exit → Act → World → Prop} {S : World → Prop} {last : Nat}

/-- Whatever comes up next, S holds behind it, but behind the last operation. -/
def anyE (P : Program) (ops : Array Oper) (Q : Exit → Act → World → Prop) (S : World → Prop) (last : Nat) : Nat → Array Bool → Act → World → Prop
  | 0, listed, a, w => Region.ready .any ops listed = [] ∧ Q .normal a w
  | n + 1, listed, a, w => (Region.ready .any ops listed = [] → Q .normal a w) ∧ ∀ j ∈ Region.ready .any ops listed, wpOp P ops Q j (fun b u => (j = last ∨ S u) ∧ anyE P ops Q S last n (listed.setIfInBounds j true) b u) a w

theorem any_of_E : ∀ (n : Nat) (listed : Array Bool) (a : Act) (w : World), anyE P ops Q S last n listed a w → wpAny P .any ops Q n listed a w
  | 0, _, _, _, h => h
  | n + 1, _, _, _, h => ⟨h.1, fun j hj => wpOp_mono (fun b u k => any_of_E n _ b u k.2) (h.2 j hj)⟩

/-- The last operation waits for all others. -/
def endB (ops : Array Oper) (last : Nat) : Bool := (List.range ops.size).all fun i => i == last || (match ops[last]? with | some o => o.after.any fun e => Region.binds .any e && e.on == i | none => false)

theorem end_spec (h : endB ops last = true) {listed : Array Bool} (hr : last ∈ Region.ready .any ops listed) {i : Nat} (hi : i < ops.size) (hne : i ≠ last) : listed.getD i false = true := by
  have h1 := List.all_eq_true.1 h i (List.mem_range.2 hi)
  obtain ⟨_, o, ho, hall⟩ := mem_ready.1 hr
  simp only [ho, Bool.or_eq_true, beq_iff_eq] at h1
  rcases h1 with h1 | h1
  · exact absurd h1 hne
  · obtain ⟨e, he, hb⟩ := Array.any_eq_true'.1 h1
    simp only [Bool.and_eq_true, beq_iff_eq] at hb
    rw [← hb.2]
    exact hall e he hb.1

theorem unlisted {listed : Array Bool} {i : Nat} (h : listed.getD i true = false) : listed.getD i false = false := by
  by_cases hi : i < listed.size
  · simp [hi] at h ⊢; exact h
  · simp [hi] at h

/-- What yields under S may be taken first. -/
theorem anyE_take {i : Nat} {o : Oper} {v : Value} (d : Tmp) (ho : ops[i]? = some o) (hd : o.dst = some d) (hs : Region.noSelect ops = true) (he : endB ops last = true) (hil : i ≠ last) (hQ : ∀ c a w, Q (.panic c) (a.put (some d) v) w → Q (.panic c) a w) :
    ∀ {n : Nat} {listed : Array Bool} {a : Act} {w : World}, Region.free .any ops listed i = true → (Region.ready .any ops listed).contains i = true → YieldsIf P ops S o v a → S w →
      anyE P ops Q S last n (listed.setIfInBounds i true) (a.put (some d) v) w → anyE P ops Q S last (n + 1) listed a w := by
  rw [← hd] at hQ ⊢
  have hsz : i < ops.size := (Array.getElem?_eq_some_iff.1 ho).1
  intro n
  have key : ∀ (n : Nat) (listed : Array Bool) (a : Act) (w : World), (∀ j oj, ops[j]? = some oj → j ≠ i → listed.getD j true = false → (∀ e ∈ oj.after, Region.binds .any e = true → e.on ≠ i) → o.apart ops oj = true) → i ∈ Region.ready .any ops listed → YieldsIf P ops S o v a → S w →
      anyE P ops Q S last n (listed.setIfInBounds i true) (a.put o.dst v) w → anyE P ops Q S last (n + 1) listed a w := by
    intro n
    induction n with
    | zero =>
      intro listed a w _ hr hy hS h
      refine ⟨fun h0 => absurd hr (by rw [h0]; simp), fun j hj => ?_⟩
      by_cases hji : j = i
      · subst hji
        exact hy.wpOp ho hS ⟨.inr hS, h⟩
      · exact absurd (ready_mono hj hji) (by rw [h.1]; simp)
    | succ n ih =>
      intro listed a w hf hr hy hS h
      refine ⟨fun h0 => absurd hr (by rw [h0]; simp), fun j hj => ?_⟩
      by_cases hji : j = i
      · subst hji
        exact hy.wpOp ho hS ⟨.inr hS, h⟩
      have hun := (mem_ready.1 hr).1
      have hjl : j ≠ last := fun hl => by
        subst hl
        have := end_spec he hj hsz (fun h => hil h)
        rw [unlisted hun] at this
        cases this
      obtain ⟨hju, oj, hoj, hall⟩ := mem_ready.1 hj
      have hno : ∀ e ∈ oj.after, Region.binds .any e = true → e.on ≠ i := fun e hm hb hx => by
        have := hall e hm hb
        rw [hx, unlisted hun] at this
        cases this
      have hstep := wpOp_putIf hoj (hf j oj hoj hji hju hno) (fun cs b => Region.noSelect_spec hs i o cs b ho) (fun cs b => Region.noSelect_spec hs j oj cs b hoj) hQ hy (h.2 j (ready_mono hj hji))
      refine wpOp_mono (fun b u k => ?_) hstep
      obtain ⟨hy2, hSu, hrest⟩ := k
      have hSu' : S u := by
        rcases hSu with hSu | hSu
        · exact absurd hSu hjl
        · exact hSu
      refine ⟨.inr hSu', ih _ b u (fun k ok hk hki hku hkn => hf k ok hk hki ?_ hkn) (ready_mono hr (Ne.symm hji)) hy2 hSu' ?_⟩
      · by_cases hjk : j = k
        · subst hjk; exact hju
        · rw [getD_set_ne true hjk] at hku; exact hku
      · rw [Array.setIfInBounds_comm _ _ hji]
        exact hrest
  intro listed a w hf hr hy hS h
  exact key n listed a w (fun j oj h1 h2 h3 h4 => Region.free_spec ho hf j oj h1 h2 h3 h4) (by simpa using hr) hy hS h

/-- One alone may come up. -/
theorem anyE_one {i : Nat} {o : Oper} {n : Nat} {listed : Array Bool} {a : Act} {w : World} (ho : ops[i]? = some o) (hr : Region.ready .any ops listed = [i]) (hg : o.guard = none)
    (h : ∀ K : Act → World → Prop, Hid (∀ b u, (i = last ∨ S u) → anyE P ops Q S last n (listed.setIfInBounds i true) b u → K b u) → o.wp P a w K Q) : anyE P ops Q S last (n + 1) listed a w := by
  refine ⟨fun h0 => (by rw [hr] at h0; cases h0), fun j hj => ?_⟩
  rw [hr] at hj
  obtain rfl : j = i := by simpa using hj
  unfold wpOp
  simp only [ho]
  rw [if_pos (by simp [Region.wanted, hg])]
  exact .inl (h _ (hid fun b u hS k => ⟨hS, k⟩))

theorem anyE_done {listed : Array Bool} {a : Act} {w : World} (hr : Region.ready .any ops listed = []) (h : Q .normal a w) : ∀ n, anyE P ops Q S last n listed a w
  | 0 => ⟨hr, h⟩
  | _ + 1 => ⟨fun _ => h, by rw [hr]; simp⟩

theorem region_E {id : Nat} {a : Act} {w : World} (S : World → Prop) (last : Nat) (hm : P.follows .mixedOrders = true) (hS : S w.drew) (h : S w.drew → anyE P ops Q S last ops.size (Array.replicate ops.size false) a w.drew) : (Code.region id ops true).wp P Q a w :=
  wp_region_any hm (any_of_E _ _ _ _ (h hS))
end
end Go.Sp
namespace Go.Proofs.YtdbhleinhpiohaaGreatDoor
open Go.RowKit Go.Sp
set_option maxHeartbeats 4000000
set_option maxRecDepth 20000

theorem infoItm : (Tryz.prog.info? 76).map (fun i => (i.zero, i.size, i.bytes)) = some (some (.agg #[.int .i64 0, .int .i64 0, nilS, nilS]), 4, 64) := by kernel_rfl

theorem resNumber_any (n : Int) (w : World) : Calls Tryz.prog 40 #[.int .i64 n] w fun e w' => e = .returned (itm 1 n nilS nilS) ∧ Up w w' := by
  go_enter Tryz.func40, Tryz.ntmps40
  go_wp2
  exact bodyPost_ret (v := itm 1 n nilS nilS) (by simp [results, Tryz.results40, go_sem]) rfl ⟨rfl, (Up.refl w).alloc _⟩

/-- The seven numbers of bases and a pseudonym. -/
def nums7 (P Q G A B C p : Int) : List Int := [P, Q, G, A, B, C, p]
def quadI (n : Int) : Quad := ⟨1, n, nilS, nilS⟩
theorem quadI_at (w : World) (d : Nat) (l : List Int) : QuadAt w d (l.map quadI) (l.map encInt) := by
  refine ⟨by simp, fun i hi => ?_⟩
  have hi' : i < l.length := by simpa using hi
  have e : (l.map encInt).getD i [] = encInt l[i] := by
    rw [List.getD_eq_getElem?_getD, List.getElem?_map, List.getElem?_eq_getElem hi']
    rfl
  rw [e]
  simp only [List.getElem_map, quadI]
  exact itm_int w _ d

/-- The text ahead of a coin's encoding. -/
def coinTag : ByteArray := { data := #[115, 112, 101, 99, 105, 101, 47, 99, 111, 105, 110] }
theorem coinTag_txt : txt coinTag = tagCoin := by decide

/-- The error of a challenge. -/
def chlE (P Q G A B C p z a b : Int) : Int := if bvB P Q G A B C = true then (if [p, z, a, b].all (elB P Q) = true then 0 else 2) else 1
def chlV (P Q G A B C p : Int) (root : Nat → Int) (z a b : Int) : Int := if chlE P Q G A B C p z a b = 0 then coinC P Q G A B C p root z a b else 0

/-- What the loads of the last region read. -/
def ChlS (L o : Nat) (ad : Option Addr) (cp : Nat) (z a b r : Int) (w : World) : Prop :=
  Blk w L 76 #[.int .i64 3, .int .i64 0, nilS, .slice ad 7 cp] ∧ Blk w (o + 2) 33 #[.int .i64 z, .int .i64 a, .int .i64 b, .int .i64 r]
theorem ChlS.cells {L o : Nat} {ad : Option Addr} {cp : Nat} {z a b r : Int} {w : World} (h : ChlS L o ad cp z a b r w) :
    w.cell? ⟨L, 3, none⟩ = some (.slice ad 7 cp) ∧ w.cell? ⟨o + 2, 0, none⟩ = some (.int .i64 z) ∧ w.cell? ⟨o + 2, 1, none⟩ = some (.int .i64 a) ∧ w.cell? ⟨o + 2, 2, none⟩ = some (.int .i64 b) :=
  ⟨h.1.val rfl, h.2.val rfl, h.2.val rfl, h.2.val rfl⟩
theorem ChlS.up {L o : Nat} {ad : Option Addr} {cp : Nat} {z a b r : Int} {w w' : World} (h : ChlS L o ad cp z a b r w) (hU : Up w w') : ChlS L o ad cp z a b r w' := ⟨h.1.up hU, h.2.up hU⟩
theorem ChlS.below {L o B : Nat} {ad : Option Addr} {cp : Nat} {z a b r : Int} {w w' : World} (h : ChlS L o ad cp z a b r w) (hb : Below B w w') (h1 : L < B) (h2 : o + 2 < B) : ChlS L o ad cp z a b r w' := ⟨h.1.below hb h1, h.2.below hb h2⟩

/-- The four items behind the seven. -/
def chlQ (o : Nat) (z a b : Int) : List Quad := [⟨2, 0, .slice (some ⟨o, 0, none⟩) 32 32, nilS⟩, quadI z, quadI a, quadI b]
theorem chlQ_cells {w : World} {g o : Nat} {z a b : Int} {t : TypeId} (hg : w.heap.size = g) : ∀ i (h : i < (chlQ o z a b).length), ItmCells (w.alloc (.cells #[.int .i64 2, .int .i64 0, .slice (some ⟨o, 0, none⟩) 32 32, nilS, .int .i64 1, .int .i64 z, nilS, nilS, .int .i64 1, .int .i64 a, nilS, nilS, .int .i64 1, .int .i64 b, nilS, nilS] t)) g (i * 4) (chlQ o z a b)[i].k (chlQ o z a b)[i].n (chlQ o z a b)[i].b (chlQ o z a b)[i].l := by
  intro i h
  have hB : Blk (w.alloc (.cells #[.int .i64 2, .int .i64 0, .slice (some ⟨o, 0, none⟩) 32 32, nilS, .int .i64 1, .int .i64 z, nilS, nilS, .int .i64 1, .int .i64 a, nilS, nilS, .int .i64 1, .int .i64 b, nilS, nilS] t)) g t #[.int .i64 2, .int .i64 0, .slice (some ⟨o, 0, none⟩) 32 32, nilS, .int .i64 1, .int .i64 z, nilS, nilS, .int .i64 1, .int .i64 a, nilS, nilS, .int .i64 1, .int .i64 b, nilS, nilS] := Blk.new hg rfl
  have : i = 0 ∨ i = 1 ∨ i = 2 ∨ i = 3 := by simp [chlQ] at h; omega
  rcases this with rfl | rfl | rfl | rfl <;> exact ⟨hB.val rfl, hB.val rfl, hB.val rfl, hB.val rfl⟩
theorem chlQ_one {o : Nat} {z a b : Int} : ∀ i (h : i < (chlQ o z a b).length), (chlQ o z a b)[i].b.oneCell' = true ∧ (chlQ o z a b)[i].l.oneCell' = true := by
  intro i h
  have : i = 0 ∨ i = 1 ∨ i = 2 ∨ i = 3 := by simp [chlQ] at h; omega
  rcases this with rfl | rfl | rfl | rfl <;> exact ⟨rfl, rfl⟩
theorem chlQ_at {w : World} {o : Nat} {root : Nat → Int} (P Q G A B C p z a b : Int) (hs : SeqAt .u8 w (.slice (some ⟨o, 0, none⟩) 32 32) (hList root)) (hR : Byt root) : QuadAt w 0 ((nums7 P Q G A B C p).map quadI ++ chlQ o z a b) (coinL P Q G A B C p root z a b) := by
  refine QuadAt.app (quadI_at w 0 _) ?_
  refine QuadAt.app (qs := [_]) (es := [_]) (QuadAt.one (itm_bytes hs (by rw [hList_length]; omega) (hList_bytes hR) 0)) ?_
  exact quadI_at w 0 [z, a, b]

theorem ints4_at {w : World} {g : Nat} {x y z u : Int} {t : TypeId} (hg : w.heap.size = g) : IntsAt (w.alloc (.cells #[.int .i64 x, .int .i64 y, .int .i64 z, .int .i64 u] t)) (.slice (some ⟨g, 0, none⟩) 4 4) [x, y, z, u] := by
  subst hg
  exact ints_at (xs := [x, y, z, u]) (by simp) fun i hi => by
    have : i = 0 ∨ i = 1 ∨ i = 2 ∨ i = 3 := by simp at hi; omega
    rcases this with rfl | rfl | rfl | rfl <;> go_simp

theorem resChallenge_any (P Q G A B C p : Int) (root : Nat → Int) (z a b r : Int) (w : World) (hP : -9223372036854775808 ≤ P) (hQ : Q ≤ 9223372036854775807) (hT : Tab w) (hS : TabS w) (hR : Byt root) :
    Calls Tryz.prog 15 #[bas P Q G A B C, .int .i64 p, hashV root, sgn z a b r] w fun e w' => e = .returned (.tuple #[.int .i64 (chlV P Q G A B C p root z a b), .int .i64 (chlE P Q G A B C p z a b)]) ∧ Up w w' := by
  have HT := hid hT
  have HS := hid hS
  have HR := hid hR
  obtain ⟨E, hE⟩ : ∃ E, chlE P Q G A B C p z a b = E := ⟨_, rfl⟩
  obtain ⟨V, hV⟩ : ∃ V, chlV P Q G A B C p root z a b = V := ⟨_, rfl⟩
  have HV : Hid (V = if E = 0 then coinC P Q G A B C p root z a b else 0) := hid (by rw [← hV, chlV, hE])
  have HE : Hid (E = if bvB P Q G A B C = true then (if [p, z, a, b].all (elB P Q) = true then 0 else 2) else 1) := hid hE.symm
  rw [hE, hV]
  clear hT hS hR hE hV
  obtain ⟨cs, hcs⟩ : ∃ cs, arrK .u8 root 32 = cs := ⟨_, rfl⟩
  have HCs := hid hcs
  unfold hashV
  rw [hcs]
  clear hcs
  obtain ⟨o, ho⟩ : ∃ o, w.heap.size = o := ⟨_, rfl⟩
  have HOo := hid ho
  clear ho
  have HX := hid (bas_reads (w := w) (P := P) (Q := Q) (G := G) (A := A) (B := B) (C := C) rfl (((Up.refl (w.alloc (.cells #[.int .i64 P, .int .i64 Q, .int .i64 G, .int .i64 A, .int .i64 B, .int .i64 C] 25))).alloc (.cells cs 31)).alloc (.cells #[.int .i64 z, .int .i64 a, .int .i64 b, .int .i64 r] 33)))
  by_cases hg : bvB P Q G A B C = true
  case neg =>
    have hg' : bvB P Q G A B C = false := by simpa using hg
    have Hg := hid hg'
    have hE : E = 1 := by rw [HE.out, if_neg hg]
    have hV : V = 0 := by rw [HV.out, hE, if_neg (by decide)]
    subst hE hV
    clear hg hg' HE HV
    go_enter Tryz.func15, Tryz.ntmps15
    go_wp2_with fail
    refine (bValid_any P Q G A B C _ hP hQ (HT.out.up ((((Up.refl w).alloc _).alloc _).alloc _))).mono ?_
    rintro e w1 ⟨rfl, hU1⟩
    rw [Hg.out]
    go_wp2
    go_ret2
    exact ⟨rfl, ((((Up.refl w).alloc _).alloc _).alloc _).trans hU1⟩
  have Hg := hid hg
  have g := gv_iff.1 (bv_iff.1 hg).1
  have g1 := g.P61
  have g2 := g.P4
  have g3 := g.Q3
  have g4 := g.QP
  have HE1 : Hid (E = if [p, z, a, b].all (elB P Q) = true then 0 else 2) := hid (by rw [HE.out, if_pos hg])
  clear hg g HE
  go_enter Tryz.func15, Tryz.ntmps15
  go_wp2_with fail
  refine (bValid_any P Q G A B C _ hP hQ (HT.out.up ((((Up.refl w).alloc _).alloc _).alloc _))).mono ?_
  rintro e w1 ⟨rfl, hU1⟩
  rw [Hg.out]
  obtain ⟨⟨c0, c1, c2⟩, c3, c4, c5⟩ := HX.out.up hU1
  have hS1 : Blk w1 (w.heap.size + 2) 33 #[.int .i64 z, .int .i64 a, .int .i64 b, .int .i64 r] := (Blk.new (by simp) rfl).up hU1
  have hR1 : Blk w1 (w.heap.size + 1) 31 cs := ((Blk.new (by simp) rfl).alloc _).up hU1
  have s0 := hS1.val (i := 0) rfl
  have s1 := hS1.val (i := 1) rfl
  have s2 := hS1.val (i := 2) rfl
  have HS1 := hid hS1
  have HR1 := hid hR1
  have l1 := hS1.lt
  have HB1 := hid (HX.out.up hU1)
  have HU1 := hid (((((Up.refl w).alloc _).alloc _).alloc _).trans hU1)
  have ho := HOo.out
  rw [ho] at c0 c1 c2 c3 c4 c5 s0 s1 s2 HS1 HR1 HB1 l1
  rw [ho]
  clear hS1 hR1 hU1 ho HX
  go_wp2_with fail
  refine (resElements_any P Q G A B C _ [p, z, a, b] _ g1 (by omega) hQ (ints4_at rfl)).mono ?_
  rintro e w2 ⟨rfl, hU2⟩
  by_cases hal : [p, z, a, b].all (elB P Q) = true
  case neg =>
    have hal' : [p, z, a, b].all (elB P Q) = false := by simpa using hal
    have Hal := hid hal'
    have hE : E = 2 := by rw [HE1.out, if_neg hal]
    have hV : V = 0 := by rw [HV.out, hE, if_neg (by decide)]
    subst hE hV
    clear hal hal' HE1 HV
    rw [Hal.out]
    go_wp2
    go_ret2
    exact ⟨rfl, HU1.out.trans (((Up.refl _).alloc _).trans hU2)⟩
  have Hal := hid hal
  rw [Hal.out]
  have hE : E = 0 := by rw [HE1.out, if_pos hal]
  have hV : V = coinC P Q G A B C p root z a b := by rw [HV.out, hE, if_pos rfl]
  have HVc := hid hV
  have hU2' := ((Up.refl w1).alloc _).trans hU2
  subst hE
  have HS2 := hid (HS1.out.up hU2')
  have HR2 := hid (HR1.out.up hU2')
  have HB2 := hid (HB1.out.up hU2')
  have HU2 := hid (HU1.out.trans hU2')
  have hlw : o + 2 < w2.heap.size := HS2.out.lt
  clear c0 c1 c2 c3 c4 c5 s0 s1 s2 HS1 HR1 HB1 HU1 hal hV hU2 hU2' HE1 HV l1
  obtain ⟨⟨c0, c1, c2⟩, c3, c4, c5⟩ := HB2.out
  have l0 : o < w2.heap.size := by omega
  go_wp2_with fail
  obtain ⟨L, hL⟩ : ∃ L, w2.heap.size = L := ⟨_, rfl⟩
  have HL0 := hid (Blk.new (w := w2) (t := 76) (cs := #[.int .i64 3, .int .i64 0, nilS, nilS]) hL rfl)
  have HLw : Hid (w.heap.size ≤ L) := hid (by have := HU2.out.size; omega)
  rw [hL] at hlw l0
  rw [hL]
  obtain ⟨w3, hw3⟩ : ∃ w3, (w2.alloc (.cells #[.int .i64 3, .int .i64 0, nilS, nilS] 76)).alloc (.cells #[.int .i64 P, .int .i64 Q, .int .i64 G, .int .i64 A, .int .i64 B, .int .i64 C, .int .i64 p] 3) = w3 := ⟨_, rfl⟩
  have HL3 : Hid (Blk w3 L 76 #[.int .i64 3, .int .i64 0, nilS, nilS]) := hid (by rw [← hw3]; exact HL0.out.alloc _)
  have HN3 : Hid (Blk w3 (L + 1) 3 #[.int .i64 P, .int .i64 Q, .int .i64 G, .int .i64 A, .int .i64 B, .int .i64 C, .int .i64 p]) := hid (by rw [← hw3]; exact Blk.new (by simp [hL]) rfl)
  have HU23 : Hid (Up w2 w3) := hid (by rw [← hw3]; exact ((Up.refl _).alloc _).alloc _)
  have HL2 := hid hL
  obtain ⟨B0, hB0⟩ : ∃ B0, B0 = L + 2 := ⟨_, rfl⟩
  have HB0 := hid hB0
  rw [show (w2.alloc (.cells #[.int .i64 3, .int .i64 0, .slice none 0 0, .slice none 0 0] 76)).alloc (.cells #[.int .i64 P, .int .i64 Q, .int .i64 G, .int .i64 A, .int .i64 B, .int .i64 C, .int .i64 p] 3) = w3 from hw3]
  clear hL hw3 HL0 c0 c1 c2 c3 c4 c5 hB0
  have hn7 : ∀ i, i < 7 → (nums7 P Q G A B C p).take (i + 1) = (nums7 P Q G A B C p).take i ++ [(nums7 P Q G A B C p).getD i 0] := fun i hi => by
    rw [List.take_succ_eq_append_getElem (by simp [nums7]; omega)]
    simp [nums7, hi]
  have HN7 := hid hn7
  have hc7 : ∀ i, i < 7 → #[Value.int .i64 P, .int .i64 Q, .int .i64 G, .int .i64 A, .int .i64 B, .int .i64 C, .int .i64 p][i]? = some (.int .i64 ((nums7 P Q G A B C p).getD i 0)) := fun i hi => by
    have : i = 0 ∨ i = 1 ∨ i = 2 ∨ i = 3 ∨ i = 4 ∨ i = 5 ∨ i = 6 := by omega
    rcases this with rfl | rfl | rfl | rfl | rfl | rfl | rfl <;> rfl
  have HC7 := hid hc7
  have HLen7 : Hid (∀ i, i ≤ 7 → (((nums7 P Q G A B C p).take i).map quadI).length = i) := hid (fun i hi => by simp [nums7]; omega)
  clear hn7 hc7
  generalize hns : nums7 P Q G A B C p = ns at *
  have HNs := hid hns
  clear hns
  go_loopw [51] (fun vk wr => ∃ (i : Nat) (ad : Option Addr) (cp : Nat), i ≤ 7 ∧ vk = .int .i64 i ∧ Hid (Blk wr L 76 #[.int .i64 3, .int .i64 0, nilS, .slice ad i cp]) ∧ Hid (Blk wr (L + 1) 3 #[.int .i64 P, .int .i64 Q, .int .i64 G, .int .i64 A, .int .i64 B, .int .i64 C, .int .i64 p]) ∧ Hid (OwnQ 76 wr B0 (.slice ad i cp) ((ns.take i).map quadI)) ∧ Hid (Up w2 wr)) (fun vk _ => 7 - (intOf vk).toNat)
  case atStart => exact ⟨0, none, 0, by omega, rfl, HL3, HN3, hid ownQ_none, HU23⟩
  case round =>
    clear HL3 HN3 HU23
    obtain ⟨i, ad, cp, hi, rfl, HLk, HN, HO, HU⟩ := hrel
    have lL := HLk.out.lt
    have lN := HN.out.lt
    by_cases hlt : i < 7
    · have q1 := HN.out.val (HC7.out i hlt)
      have q3 := HLk.out.val (i := 3) rfl
      have HT7 := hid (HN7.out i hlt)
      have HLi := hid (HLen7.out i (by omega))
      have HLi1 := hid (HLen7.out (i + 1) (by omega))
      generalize ns.getD i 0 = n at *
      have HQ7 : Hid ((ns.take i).map quadI ++ [quadI n] = (ns.take (i + 1)).map quadI) := hid (by rw [HT7.out, List.map_append]; rfl)
      have di : decide ((i : Int) < 7) = true := by simp; omega
      have hS0 := anyW wr
      have hS1 := anyW wr.drew
      go_wp2_with fail

      go_region_law (first
        | (refine step_appQ infoItm rfl Tryz.underlying74 (by omega) (by rfl) _ _ (by rfl) B0 (news := [quadI n]) (by rfl) (by first | exact (HO9.out.up ((Up.refl _).alloc _)) | exact (HO9.out.up ((Up.refl _).alloc _).drew) | exact (HO9.out.up ((Up.refl _).drew.alloc _))) w9.heap.size 1 (by rfl) (fun j hj => by (obtain rfl : j = 0 := (by simp at hj; omega)); exact itm_new rfl) (fun j hj => by (obtain rfl : j = 0 := (by simp at hj; omega)); exact ⟨rfl, rfl⟩) (by have := HLi.out; simp; simp at this; omega) (by have := HB0.out; have := hU9.size; simp; omega) ?_; intro v10 w10 hO10 hg10; have hB10 : Below B0 w9 w10 := below_trans (below_of_up ((Up.refl w9).alloc _) (by have := HB0.out; have := hU9.size; omega)) ((HO9.out.up ((Up.refl _).alloc _)).below hg10 (by have := HB0.out; have := hU9.size; simp; omega)); have HL10 := hid (HL9.out.below hB10 (by have := HB0.out; omega)); have k3 := HL10.out.val (i := 3) rfl; have y3 := HL10.out.thawed 3; have l10 := HL10.out.lt; rw [HQ7.out] at hO10; obtain ⟨a10, c10, rfl⟩ := hO10.shape; rw [HLi1.out] at hO10; rw [HLi1.out])
        | (go_simp; go_at_call 40; refine (resNumber_any n _).mono ?_; rintro e w9 ⟨rfl, hU9⟩; have hU9 := Up.trans (by first | exact (Up.refl wr).drew | exact Up.refl wr | exact (Up.refl wr).drew.drew) hU9; have q9 := cellUp hU9 q3; have l9 : L < w9.heap.size := (by have := hU9.size; omega); have HL9 := hid (HLk.out.up hU9); have HO9 := hid (HO.out.up hU9); try dsimp only))
      all_goals (
        have HL11 : Hid (Blk (w10.setCell ⟨L, 3, none⟩ (.slice a10 (i + 1) c10)) L 76 #[.int .i64 3, .int .i64 0, nilS, .slice a10 (i + 1) c10]) := hid (HL10.out.wrote 3 _)
        have HN11 := hid ((((HN.out.up hU9).below hB10 (by have := HB0.out; omega)).apart (a := ⟨L, 3, none⟩) (by simp) (.slice a10 (i + 1) c10)))
        have HO11 := hid (hO10.set (a := ⟨L, 3, none⟩) (by have := HB0.out; show L < B0; omega) (.slice a10 (i + 1) c10))
        have HU11 := hid ((up_below (HU.out.trans hU9) hB10 (by have := HB0.out; have := HL2.out; omega)).setCell (a := ⟨L, 3, none⟩) (by have := HL2.out; show w2.heap.size ≤ L; omega) (.slice a10 (i + 1) c10))
        clear hU9 q9 l9 HL9 HO9 hg10 hB10 HL10 k3 y3 l10 hO10
        go_wp2_with fail
        go_roundw
        case rel => exact ⟨i + 1, a10, c10, by omega, by go_num, HL11, HN11, HO11, HU11⟩
        case measure => simp [intOf]; omega)
    · obtain rfl : i = 7 := by omega
      have HS4 := hid (HS2.out.up HU.out)
      have HR4 := hid (HR2.out.up HU.out)
      have HU4 := hid (HU2.out.trans HU.out)
      have HB4 := hid (HB2.out.up HU.out)
      have s0 := HS4.out.val (i := 0) rfl
      have s1 := HS4.out.val (i := 1) rfl
      have s2 := HS4.out.val (i := 2) rfl
      have q3 := HLk.out.val (i := 3) rfl
      have lR := HR4.out.lt
      have ho2 : o + 2 < wr.heap.size := HS4.out.lt
      have HOl := hid (HLen7.out 7 (by omega))
      clear HS2 HR2 HU2 HN
      have HSl : Hid (SeqAt .u8 wr (.slice (some ⟨o + 1, 0, none⟩) 32 32) (hList root)) := hid (seedAt HR4.out (fun i hi => by rw [← HCs.out, arrK_get hi]))
      go_wp2_with fail
      refine region_E (ChlS L o ad cp z a b r) 16 (by kernel_rfl) ((show ChlS L o ad cp z a b r wr from ⟨HLk.out, HS4.out⟩).up (Up.refl _).drew) fun hS => ?_
      refine anyE_take (i := 0) (v := ?_) 63 rfl rfl (by kernel_rfl) (by kernel_rfl) (by decide) (fun _ _ _ h => h) (by kernel_rfl) (by kernel_rfl) (.inl ⟨by rfl, fun u hu => ?_⟩) hS ?_
      rotate_left
      · (obtain ⟨t0, t1, t2, t3⟩ := ChlS.cells hu; go_simp; first | done | with_reducible rfl)
      simp only [Act.put, List.setIfInBounds_toArray, List.set_cons_zero, List.set_cons_succ]
      refine anyE_take (i := 1) (v := ?_) 64 rfl rfl (by kernel_rfl) (by kernel_rfl) (by decide) (fun _ _ _ h => h) (by kernel_rfl) (by kernel_rfl) (.inl ⟨by rfl, fun u hu => ?_⟩) hS ?_
      rotate_left
      · (obtain ⟨t0, t1, t2, t3⟩ := ChlS.cells hu; go_simp; first | done | with_reducible rfl)
      simp only [Act.put, List.setIfInBounds_toArray, List.set_cons_zero, List.set_cons_succ]
      refine anyE_take (i := 2) (v := ?_) 65 rfl rfl (by kernel_rfl) (by kernel_rfl) (by decide) (fun _ _ _ h => h) (by kernel_rfl) (by kernel_rfl) (.inl ⟨by rfl, fun u hu => ?_⟩) hS ?_
      rotate_left
      · (obtain ⟨t0, t1, t2, t3⟩ := ChlS.cells hu; go_simp; first | done | with_reducible rfl)
      simp only [Act.put, List.setIfInBounds_toArray, List.set_cons_zero, List.set_cons_succ]
      refine anyE_take (i := 3) (v := ?_) 66 rfl rfl (by kernel_rfl) (by kernel_rfl) (by decide) (fun _ _ _ h => h) (by kernel_rfl) (by kernel_rfl) (.inl ⟨by rfl, fun u hu => ?_⟩) hS ?_
      rotate_left
      · (obtain ⟨t0, t1, t2, t3⟩ := ChlS.cells hu; go_simp; first | done | with_reducible rfl)
      simp only [Act.put, List.setIfInBounds_toArray, List.set_cons_zero, List.set_cons_succ]
      refine anyE_take (i := 4) (v := ?_) 67 rfl rfl (by kernel_rfl) (by kernel_rfl) (by decide) (fun _ _ _ h => h) (by kernel_rfl) (by kernel_rfl) (.inl ⟨by rfl, fun u hu => ?_⟩) hS ?_
      rotate_left
      · (obtain ⟨t0, t1, t2, t3⟩ := ChlS.cells hu; go_simp; first | done | with_reducible rfl)
      simp only [Act.put, List.setIfInBounds_toArray, List.set_cons_zero, List.set_cons_succ]
      refine anyE_take (i := 5) (v := ?_) 68 rfl rfl (by kernel_rfl) (by kernel_rfl) (by decide) (fun _ _ _ h => h) (by kernel_rfl) (by kernel_rfl) (.inl ⟨by rfl, fun u hu => ?_⟩) hS ?_
      rotate_left
      · (obtain ⟨t0, t1, t2, t3⟩ := ChlS.cells hu; go_simp; first | done | with_reducible rfl)
      simp only [Act.put, List.setIfInBounds_toArray, List.set_cons_zero, List.set_cons_succ]
      refine anyE_take (i := 7) (v := ?_) 70 rfl rfl (by kernel_rfl) (by kernel_rfl) (by decide) (fun _ _ _ h => h) (by kernel_rfl) (by kernel_rfl) (.inl ⟨by rfl, fun u hu => ?_⟩) hS ?_
      rotate_left
      · (obtain ⟨t0, t1, t2, t3⟩ := ChlS.cells hu; go_simp; first | done | with_reducible rfl)
      simp only [Act.put, List.setIfInBounds_toArray, List.set_cons_zero, List.set_cons_succ]
      refine anyE_take (i := 8) (v := ?_) 71 rfl rfl (by kernel_rfl) (by kernel_rfl) (by decide) (fun _ _ _ h => h) (by kernel_rfl) (by kernel_rfl) (.inl ⟨by rfl, fun u hu => ?_⟩) hS ?_
      rotate_left
      · (obtain ⟨t0, t1, t2, t3⟩ := ChlS.cells hu; go_simp; first | done | with_reducible rfl)
      simp only [Act.put, List.setIfInBounds_toArray, List.set_cons_zero, List.set_cons_succ]
      refine anyE_take (i := 10) (v := ?_) 73 rfl rfl (by kernel_rfl) (by kernel_rfl) (by decide) (fun _ _ _ h => h) (by kernel_rfl) (by kernel_rfl) (.inl ⟨by rfl, fun u hu => ?_⟩) hS ?_
      rotate_left
      · (obtain ⟨t0, t1, t2, t3⟩ := ChlS.cells hu; go_simp; first | done | with_reducible rfl)
      simp only [Act.put, List.setIfInBounds_toArray, List.set_cons_zero, List.set_cons_succ]
      refine anyE_take (i := 11) (v := ?_) 74 rfl rfl (by kernel_rfl) (by kernel_rfl) (by decide) (fun _ _ _ h => h) (by kernel_rfl) (by kernel_rfl) (.inl ⟨by rfl, fun u hu => ?_⟩) hS ?_
      rotate_left
      · (obtain ⟨t0, t1, t2, t3⟩ := ChlS.cells hu; go_simp; first | done | with_reducible rfl)
      simp only [Act.put, List.setIfInBounds_toArray, List.set_cons_zero, List.set_cons_succ]
      refine anyE_one (i := 6) rfl (by kernel_rfl) rfl (fun K hK => ?_)
      go_simp
      go_at_call 40
      refine (resNumber_any z _).mono ?_
      rintro e w5 ⟨rfl, hUw5⟩
      try dsimp only
      have hSw5 := ChlS.up hS hUw5
      refine hK.out _ _ (.inr hSw5) ?_
      clear hK
      try simp only [Act.put, List.setIfInBounds_toArray, List.set_cons_zero, List.set_cons_succ]
      refine anyE_one (i := 9) rfl (by kernel_rfl) rfl (fun K hK => ?_)
      go_simp
      go_at_call 40
      refine (resNumber_any a _).mono ?_
      rintro e w6 ⟨rfl, hUw6⟩
      try dsimp only
      have hSw6 := ChlS.up hSw5 hUw6
      refine hK.out _ _ (.inr hSw6) ?_
      clear hK
      try simp only [Act.put, List.setIfInBounds_toArray, List.set_cons_zero, List.set_cons_succ]
      refine anyE_one (i := 12) rfl (by kernel_rfl) rfl (fun K hK => ?_)
      go_simp
      go_at_call 40
      refine (resNumber_any b _).mono ?_
      rintro e w7 ⟨rfl, hUw7⟩
      try dsimp only
      have hSw7 := ChlS.up hSw6 hUw7
      refine hK.out _ _ (.inr hSw7) ?_
      clear hK
      try simp only [Act.put, List.setIfInBounds_toArray, List.set_cons_zero, List.set_cons_succ]
      refine anyE_one (i := 13) rfl (by kernel_rfl) rfl (fun K hK => ?_)
      go_simp
      have hS8 := ChlS.up hSw7 ((Up.refl w7).alloc (.cells #[.int .i64 2, .int .i64 0, .slice (some ⟨o + 1, 0, none⟩) 32 32, nilS, .int .i64 1, .int .i64 z, nilS, nilS, .int .i64 1, .int .i64 a, nilS, nilS, .int .i64 1, .int .i64 b, nilS, nilS] 76))
      refine hK.out _ _ (.inr hS8) ?_
      clear hK
      try simp only [Act.put, List.setIfInBounds_toArray, List.set_cons_zero, List.set_cons_succ]
      have hU7 : Up wr w7 := (Up.refl wr).drew.trans (hUw5.trans (hUw6.trans hUw7))
      have hs7 := hU7.size
      have hB0 := HB0.out
      have hO8 := HO.out.up (hU7.alloc (.cells #[.int .i64 2, .int .i64 0, .slice (some ⟨o + 1, 0, none⟩) 32 32, nilS, .int .i64 1, .int .i64 z, nilS, nilS, .int .i64 1, .int .i64 a, nilS, nilS, .int .i64 1, .int .i64 b, nilS, nilS] 76))
      refine anyE_one (i := 14) rfl (by kernel_rfl) rfl (fun K hK => ?_)
      refine op_appQ infoItm rfl Tryz.underlying74 (by omega) _ _ rfl B0 (news := chlQ (o + 1) z a b) rfl hO8 w7.heap.size 4 rfl (chlQ_cells rfl) chlQ_one (by rw [HOl.out]; simp [chlQ]) (by simp; omega) ?_
      intro v10 w10 hO10 hg10
      have hB10 : Below B0 w7 w10 := below_trans (below_of_up ((Up.refl w7).alloc _) (by omega)) (hO8.below hg10 (by simp; omega))
      have hS10 : ChlS L o ad cp z a b r w10 := ChlS.below hSw7 hB10 (by omega) (by omega)
      change K (Act.put _ (some 77) _) _
      refine hK.out _ _ (.inr hS10) ?_
      clear hK
      try simp only [Act.put, List.setIfInBounds_toArray, List.set_cons_zero, List.set_cons_succ]
      refine anyE_take (i := 15) (v := ?_) 78 rfl rfl (by kernel_rfl) (by kernel_rfl) (by decide) (fun _ _ _ h => h) (by kernel_rfl) (by kernel_rfl) (.inl ⟨by rfl, fun u hu => ?_⟩) hS10 ?_
      rotate_left
      · (obtain ⟨t0, t1, t2, t3⟩ := ChlS.cells hu; go_simp; first | done | with_reducible rfl)
      simp only [Act.put, List.setIfInBounds_toArray, List.set_cons_zero, List.set_cons_succ]
      have k3 := hS10.1.val (i := 3) rfl
      have y3 := hS10.1.thawed 3
      obtain ⟨a10, c10, rfl⟩ := hO10.shape
      have HL11 : Hid (Blk (w10.setCell ⟨L, 3, none⟩ (.slice a10 ((ns.take 7).map quadI ++ chlQ (o + 1) z a b).length c10)) L 76 #[.int .i64 3, .int .i64 0, nilS, .slice a10 ((ns.take 7).map quadI ++ chlQ (o + 1) z a b).length c10]) := hid (hS10.1.wrote 3 _)
      have HO11 := hid (hO10.set (a := ⟨L, 3, none⟩) (by show L < B0; omega) (.slice a10 ((ns.take 7).map quadI ++ chlQ (o + 1) z a b).length c10))
      have HR11 := hid ((((HR4.out.up hU7).below hB10 (by omega)).apart (a := ⟨L, 3, none⟩) (show o + 1 ≠ L by omega) (.slice a10 ((ns.take 7).map quadI ++ chlQ (o + 1) z a b).length c10)))
      have HU11 := hid ((up_below (HU4.out.trans hU7) hB10 (by have := HLw.out; omega)).setCell (a := ⟨L, 3, none⟩) (by have := HLw.out; show w.heap.size ≤ L; omega) (.slice a10 ((ns.take 7).map quadI ++ chlQ (o + 1) z a b).length c10))
      have HB11 : Hid (BasAt (w10.setCell ⟨L, 3, none⟩ (.slice a10 ((ns.take 7).map quadI ++ chlQ (o + 1) z a b).length c10)) o P Q G A B C) := hid (HB2.out.up ((up_below (HU.out.trans hU7) hB10 (by have := HL2.out; omega)).setCell (a := ⟨L, 3, none⟩) (by have := HL2.out; show w2.heap.size ≤ L; omega) _))
      have hlen : ((ns.take 7).map quadI ++ chlQ (o + 1) z a b).length = 11 := by rw [List.length_append, HOl.out]; rfl
      have HQs : Hid ((ns.take 7).map quadI ++ chlQ (o + 1) z a b = (nums7 P Q G A B C p).map quadI ++ chlQ (o + 1) z a b) := hid (by rw [← HNs.out]; rfl)
      rw [hlen] at HL11 HR11 HU11 HB11 HO11
      rw [hlen]
      refine anyE_one (i := 16) rfl (by kernel_rfl) rfl (fun K hK => ?_)
      go_simp
      refine hK.out _ _ (.inl rfl) (anyE_done (by kernel_rfl) ?_ _)
      clear hK K hS hSw5 hSw6 hSw7 hS8 hS10 hU7 hs7 hO8 hO10 hg10 hB10 k3 y3 hUw5 hUw6 hUw7
      generalize w10.setCell ⟨L, 3, none⟩ (.slice a10 11 c10) = w11 at *
      have HIt : Hid (ItmAt w11 1 3 0 nilS (.slice a10 11 c10) (encList (coinL P Q G A B C p root z a b))) := hid (by
        have h1 := HO11.out
        rw [HQs.out] at h1
        exact itm_list (h1.row (chlQ_at P Q G A B C p z a b (seedAt HR11.out (fun i hi => by rw [← HCs.out, arrK_get hi])) HR.out)) (by simp [coinL]))
      have m0 := HL11.out.val (i := 0) rfl
      have m1 := HL11.out.val (i := 1) rfl
      have m2 := HL11.out.val (i := 2) rfl
      have m3 := HL11.out.val (i := 3) rfl
      have HEl : Hid ((encList (coinL P Q G A B C p root z a b)).length = 132) := hid (by rw [encList_length, coinL_flat])
      have HEb := hid (coinL_byt (P := P) (Q := Q) (G := G) (A := A) (B := B) (C := C) (p := p) (z := z) (a := a) (b := b) HR.out)
      have HVn : Hid (V = numH (tagB (txt coinTag) (encList (coinL P Q G A B C p root z a b))) Q) := hid (by rw [HVc.out, coinTag_txt]; rfl)
      have lo11 : o < w11.heap.size := by have := HR11.out.lt; omega
      clear HL2 HU HSl HOl HQs HLk HO HS4 HR4 HU4 HB4 HB2 HO11 HR11 HL11 s0 s1 s2 q3 lR ho2 lL lN hlen
      generalize encList (coinL P Q G A B C p root z a b) = es at *
      go_wp2_with fail
      refine (Encode_short HIt.out (by omega) (by rw [HEl.out]; omega)).mono ?_
      rintro e w12 ⟨v12, rfl, hO12, hU12⟩
      have HO12 := hid hO12.seq
      have HU12 := hid (HU11.out.trans hU12)
      have HB12 := hid (HB11.out.up hU12)
      clear hO12 hU12 HIt m0 m1 m2 m3 HU11 HB11 lo11
      have lo12 : o < w12.heap.size := cell_lt HB12.out.1.1
      go_wp2_with fail
      refine (Tagged_any coinTag v12 es _ (HS.out.up HU12.out) (by decide) (by decide) HO12.out (by rw [HEl.out]; omega) HEb.out).mono ?_
      rintro e w13 ⟨rfl, hU13⟩
      have HU13 := hid (HU12.out.trans hU13)
      have HB13 := hid (HB12.out.up hU13)
      clear hU13 HU12 HB12 lo12 HO12
      have lo13 : o < w13.heap.size := cell_lt HB13.out.1.1
      have HHb := hid (tagB_range (txt coinTag) es)
      generalize tagB (txt coinTag) es = H at *
      obtain ⟨⟨c0, c1, c2⟩, c3, c4, c5⟩ := HB13.out
      unfold hashV
      go_wp2_with (first
        | (refine wpList_store_rowTo rfl 31 _ _ rfl rfl _ _ rfl rfl 31 _ (heap_alloc_new _ _) (by rw [arrK_size]; kernel_rfl) (by rw [arrK_size]; rfl) arrK_one ?_; rw [World.setRow_alloc_new])
        | (refine wpList_load_row rfl 31 _ rfl w13.heap.size rfl 31 (arrK .u8 H 32) (0, 0) _ (Blk.new rfl rfl) Tryz.underlying31 rfl (by rw [arrK_size]; kernel_rfl) ?_))
      refine (Number_ok H Q _ HHb.out (by omega) (by omega)).mono ?_
      rintro e w14 ⟨rfl, hU14⟩
      have HU14 := hid ((HU13.out.alloc _).trans hU14)
      clear hU14 c0 c1 c2 c3 c4 c5 HB13 lo13
      go_wp2_with fail
      go_ret2
      exact ⟨by rw [HVn.out]; rfl, HU14.out⟩
end Go.Proofs.YtdbhleinhpiohaaGreatDoor
namespace Go.Proofs.YtdbhleinhpiohaaGreatDoor
open Go.RowKit Go.Sp
set_option maxHeartbeats 4000000
set_option maxRecDepth 20000

/-- A right signature. -/
def verB (P Q G A B C k1 k2 k3 p : Int) (root : Nat → Int) (z a b r : Int) : Bool :=
  kvB P Q G A B C k1 k2 k3 && (gnB P Q p && (exB Q r && ([z, a, b].all (elB P Q) && (coinC P Q G A B C p root z a b != 0 && cvE P G k1 p z a b (coinC P Q G A B C p root z a b) r))))

theorem resVerify_any (P Q G A B C k1 k2 k3 p : Int) (root : Nat → Int) (z a b r : Int) (w : World) (hP : -9223372036854775808 ≤ P) (hQ : Q ≤ 9223372036854775807) (hT : Tab w) (hS : TabS w) (hR : Byt root) :
    Calls Tryz.prog 37 #[bas P Q G A B C, bkey k1 k2 k3, .int .i64 p, hashV root, sgn z a b r] w fun e w' => e = .returned (.bool (verB P Q G A B C k1 k2 k3 p root z a b r)) ∧ Up w w' := by
  have HT := hid hT
  have HB0 : Hid (verB P Q G A B C k1 k2 k3 p root z a b r = (kvB P Q G A B C k1 k2 k3 && (gnB P Q p && (exB Q r && ([z, a, b].all (elB P Q) && (coinC P Q G A B C p root z a b != 0 && cvE P G k1 p z a b (coinC P Q G A B C p root z a b) r)))))) := hid rfl
  generalize verB P Q G A B C k1 k2 k3 p root z a b r = T at *
  have HCh := hid (fun w' (hU : Up w w') => resChallenge_any P Q G A B C p root z a b r w' hP hQ (hT.up hU) (hS.up hU) hR)
  have HR := hid hR
  obtain ⟨cs, hcs⟩ : ∃ cs, arrK .u8 root 32 = cs := ⟨_, rfl⟩
  have HCz : Hid ((Tryz.prog.info? 31).map (·.size) = some cs.size) := hid (by rw [← hcs, arrK_size]; kernel_rfl)
  unfold hashV at HCh ⊢
  rw [hcs] at HCh ⊢
  obtain ⟨o, ho⟩ : ∃ o, w.heap.size = o := ⟨_, rfl⟩
  have HO := hid ho
  obtain ⟨o1, ho1⟩ : ∃ o1, o + 1 = o1 := ⟨_, rfl⟩
  obtain ⟨o2, ho2⟩ : ∃ o2, o1 + 1 = o2 := ⟨_, rfl⟩
  obtain ⟨o3, ho3⟩ : ∃ o3, o2 + 1 = o3 := ⟨_, rfl⟩
  obtain ⟨o4, ho4⟩ : ∃ o4, o3 + 1 = o4 := ⟨_, rfl⟩
  have HO1 := hid ho1
  have HO2 := hid ho2
  have HO3 := hid ho3
  have HO4 := hid ho4
  clear hT hS hR hcs ho ho1 ho2 ho3 ho4
  go_enter Tryz.func37, Tryz.ntmps37
  go_wp2_with fail
  refine (resValid_any P Q G A B C k1 k2 k3 _ hP hQ (HT.out.up (((((Up.refl w).alloc _).alloc _).alloc _).alloc _))).mono ?_
  rintro e w1 ⟨rfl, hU1⟩
  have HA1 := hid (((nums_six (w := w) (t := 25) HO.out).up ((((Up.refl _).alloc _).alloc _).alloc _)).up hU1)
  have HY1 := hid (((nums_three (r := o1) (t := 27) (by have := HO.out; have := HO1.out; have := HO2.out; have := HO3.out; have := HO4.out; simp; omega)).up (((Up.refl _).alloc _).alloc _)).up hU1)
  have HC1 := hid (((Blk.new (g := o2) (t := 31) (by have := HO.out; have := HO1.out; have := HO2.out; have := HO3.out; have := HO4.out; simp; omega) rfl).up ((Up.refl _).alloc _)).up hU1)
  have HS1 := hid (((Blk.new (g := o3) (t := 33) (by have := HO.out; have := HO1.out; have := HO2.out; have := HO3.out; have := HO4.out; simp; omega) rfl)).up hU1)
  have HU1 := hid ((((((Up.refl w).alloc _).alloc _).alloc _).alloc _).trans hU1)
  clear hU1
  rw [HO.out, HO1.out, HO2.out, HO3.out]
  obtain ⟨⟨c0, c1, c2⟩, c3, c4, c5⟩ := HA1.out
  obtain ⟨e0, e1, e2⟩ := HY1.out
  have s0 := HS1.out.val (i := 0) rfl
  have s1 := HS1.out.val (i := 1) rfl
  have s2 := HS1.out.val (i := 2) rfl
  have s3 := HS1.out.val (i := 3) rfl
  by_cases h : kvB P Q G A B C k1 k2 k3 = true
  case neg =>
    have h' : kvB P Q G A B C k1 k2 k3 = false := by simpa using h
    have hX : T = false := by rw [HB0.out, h']; rfl
    subst hX
    rw [h']
    clear h h'
    go_wp2
    go_ret
    exact ⟨rfl, HU1.out⟩
  have HB1 : Hid (T = (gnB P Q p && (exB Q r && ([z, a, b].all (elB P Q) && (coinC P Q G A B C p root z a b != 0 && cvE P G k1 p z a b (coinC P Q G A B C p root z a b) r))))) := hid (by rw [HB0.out, h]; rfl)
  have C1 := hid h
  rw [h]
  clear h HB0
  obtain ⟨hbv, hk1, hk2, hk3⟩ : bvB P Q G A B C = true ∧ gnB P Q k1 = true ∧ gnB P Q k2 = true ∧ gnB P Q k3 = true := by
    have := C1.out
    simp only [kvB, Bool.and_eq_true] at this
    exact this
  have Hbv := hid hbv
  have g := gv_iff.1 (bv_iff.1 hbv).1
  have g1 := g.P61
  have g2 := g.P4
  have g3 := g.Q3
  have g4 := g.QP
  have g5 := g.G2
  have g6 := g.GP
  have HK1 := hid (gn_el hk1)
  clear hbv hk1 hk2 hk3 g
  go_wp2_with fail
  refine (resMessage_any P Q G A B C p _ g1 (by omega) hQ).mono ?_
  rintro e w2 ⟨rfl, hU2⟩
  have HA2 := hid (HA1.out.up hU2)
  have HY2 := hid (HY1.out.up hU2)
  have HC2 := hid (HC1.out.up hU2)
  have HS2 := hid (HS1.out.up hU2)
  have HU2 := hid (HU1.out.trans hU2)
  clear hU2 HA1 HY1 HC1 HS1 HU1 c0 c1 c2 c3 c4 c5 e0 e1 e2 s0 s1 s2 s3
  obtain ⟨⟨c0, c1, c2⟩, c3, c4, c5⟩ := HA2.out
  obtain ⟨e0, e1, e2⟩ := HY2.out
  have s0 := HS2.out.val (i := 0) rfl
  have s1 := HS2.out.val (i := 1) rfl
  have s2 := HS2.out.val (i := 2) rfl
  have s3 := HS2.out.val (i := 3) rfl
  by_cases h : gnB P Q p = true
  case neg =>
    have h' : gnB P Q p = false := by simpa using h
    have hX : T = false := by rw [HB1.out, h']; rfl
    subst hX
    rw [h']
    clear h h'
    go_wp2
    go_ret
    exact ⟨rfl, HU2.out⟩
  have HB2 : Hid (T = (exB Q r && ([z, a, b].all (elB P Q) && (coinC P Q G A B C p root z a b != 0 && cvE P G k1 p z a b (coinC P Q G A B C p root z a b) r)))) := hid (by rw [HB1.out, h]; rfl)
  have C2 := hid h
  rw [h]
  clear h HB1
  go_wp2_with fail
  refine (resScalar_any P Q G A B C r _).mono ?_
  rintro e w3 ⟨rfl, hU3⟩
  have HA3 := hid (HA2.out.up hU3)
  have HY3 := hid (HY2.out.up hU3)
  have HC3 := hid (HC2.out.up hU3)
  have HS3 := hid (HS2.out.up hU3)
  have HU3 := hid (HU2.out.trans hU3)
  clear hU3 HA2 HY2 HC2 HS2 HU2 c0 c1 c2 c3 c4 c5 e0 e1 e2 s0 s1 s2 s3
  obtain ⟨⟨c0, c1, c2⟩, c3, c4, c5⟩ := HA3.out
  obtain ⟨e0, e1, e2⟩ := HY3.out
  have s0 := HS3.out.val (i := 0) rfl
  have s1 := HS3.out.val (i := 1) rfl
  have s2 := HS3.out.val (i := 2) rfl
  have s3 := HS3.out.val (i := 3) rfl
  by_cases h : exB Q r = true
  case neg =>
    have h' : exB Q r = false := by simpa using h
    have hX : T = false := by rw [HB2.out, h']; rfl
    subst hX
    rw [h']
    clear h h'
    go_wp2
    go_ret
    exact ⟨rfl, HU3.out⟩
  have HB3 : Hid (T = ([z, a, b].all (elB P Q) && (coinC P Q G A B C p root z a b != 0 && cvE P G k1 p z a b (coinC P Q G A B C p root z a b) r))) := hid (by rw [HB2.out, h]; rfl)
  have C3 := hid h
  rw [h]
  clear h HB2
  by_cases hal : [z, a, b].all (elB P Q) = true
  case neg =>
    have hal' : [z, a, b].all (elB P Q) = false := by simpa using hal
    have hX : T = false := by rw [HB3.out, hal']; rfl
    subst hX
    have hE : chlE P Q G A B C p z a b = 2 := by
      rw [chlE, if_pos Hbv.out, if_neg]
      intro h
      simp only [List.all_cons, List.all_nil, Bool.and_eq_true, Bool.and_true] at h hal
      exact hal h.2
    have hV : chlV P Q G A B C p root z a b = 0 := by rw [chlV, if_neg (by rw [hE]; decide)]
    rw [hE, hV] at HCh
    clear hal hal' hE hV
    go_wp2_with (refine wpList_load_row rfl 31 _ rfl o2 rfl 31 cs (0, 0) _ HC3.out Tryz.underlying31 rfl HCz.out ?_)
    refine (HCh.out _ (HU3.out)).mono ?_
    rintro e w4 ⟨rfl, hU4⟩
    have HA4 := hid (HA3.out.up hU4)
    have HY4 := hid (HY3.out.up hU4)
    have HC4 := hid (HC3.out.up hU4)
    have HS4 := hid (HS3.out.up hU4)
    have HU4 := hid (HU3.out.trans hU4)
    clear hU4 HA3 HY3 HC3 HS3 HU3 c0 c1 c2 c3 c4 c5 e0 e1 e2 s0 s1 s2 s3
    go_wp2
    go_ret
    exact ⟨rfl, HU4.out⟩
  have Hal := hid hal
  have HB4 : Hid (T = (coinC P Q G A B C p root z a b != 0 && cvE P G k1 p z a b (coinC P Q G A B C p root z a b) r)) := hid (by rw [HB3.out, hal]; rfl)
  obtain ⟨hz, hx, hy⟩ : elB P Q z = true ∧ elB P Q a = true ∧ elB P Q b = true := by simpa using hal
  have hE : chlE P Q G A B C p z a b = 0 := by rw [chlE, if_pos Hbv.out, if_pos (by simp [gn_el C2.out, hz, hx, hy])]
  have hV : chlV P Q G A B C p root z a b = coinC P Q G A B C p root z a b := by rw [chlV, if_pos hE]
  rw [hE, hV] at HCh
  obtain ⟨v0, v1⟩ := coinC_range P G A B C p root z a b (Q := Q) (by omega)
  generalize coinC P Q G A B C p root z a b = V at *
  clear hal hE hV HB3
  go_wp2_with (refine wpList_load_row rfl 31 _ rfl o2 rfl 31 cs (0, 0) _ HC3.out Tryz.underlying31 rfl HCz.out ?_)
  refine (HCh.out _ (HU3.out)).mono ?_
  rintro e w4 ⟨rfl, hU4⟩
  have HA4 := hid (HA3.out.up hU4)
  have HY4 := hid (HY3.out.up hU4)
  have HC4 := hid (HC3.out.up hU4)
  have HS4 := hid (HS3.out.up hU4)
  have HU4 := hid (HU3.out.trans hU4)
  clear hU4 HA3 HY3 HC3 HS3 HU3 c0 c1 c2 c3 c4 c5 e0 e1 e2 s0 s1 s2 s3
  obtain ⟨⟨c0, c1, c2⟩, c3, c4, c5⟩ := HA4.out
  obtain ⟨e0, e1, e2⟩ := HY4.out
  have s0 := HS4.out.val (i := 0) rfl
  have s1 := HS4.out.val (i := 1) rfl
  have s2 := HS4.out.val (i := 2) rfl
  have s3 := HS4.out.val (i := 3) rfl
  by_cases hv : V = 0
  case pos =>
    subst hv
    have hX : T = false := by rw [HB4.out]; rfl
    subst hX
    go_wp2
    go_ret
    exact ⟨rfl, HU4.out⟩
  have dV : (V == 0) = false := by simpa using hv
  have HB5 : Hid (T = (pwi P G r == pwi P k1 V * a % P && pwi P p r == pwi P z V * b % P)) := hid (by rw [HB4.out, show (V != 0) = true by simpa using hv]; rfl)
  clear hv
  obtain ⟨z0, z1, _⟩ := el_iff.1 hz
  obtain ⟨x0, x1, _⟩ := el_iff.1 hx
  obtain ⟨y0, y1, _⟩ := el_iff.1 hy
  obtain ⟨k0, k9, _⟩ := el_iff.1 HK1.out
  obtain ⟨m0, m1, _⟩ := el_iff.1 (gn_el C2.out)
  obtain ⟨r0, r1⟩ := exB_iff.1 C3.out
  have M1 := hid (fun w' => resPower_ok P Q G A B C G r w' (by omega) g6 (by omega) (by omega) g1)
  have M2 := hid (fun w' => resProduct_one P Q G A B C k1 V a w' (by omega) k9 (by omega) (by omega) (by omega) x1 g1)
  have M3 := hid (fun w' => resPower_ok P Q G A B C p r w' (by omega) m1 (by omega) (by omega) g1)
  have M4 := hid (fun w' => resProduct_one P Q G A B C z V b w' (by omega) z1 (by omega) (by omega) (by omega) y1 g1)
  generalize pwi P G r = l1 at *
  generalize pwi P k1 V * a % P = r1' at *
  generalize pwi P p r = l2 at *
  generalize pwi P z V * b % P = r2' at *
  have fc0 := cellF c0
  have fc1 := cellF c1
  have fc2 := cellF c2
  have fc3 := cellF c3
  have fc4 := cellF c4
  have fc5 := cellF c5
  have fe0 := cellF e0
  have fe1 := cellF e1
  have fe2 := cellF e2
  have fs0 := cellF s0
  have fs1 := cellF s1
  have fs2 := cellF s2
  have fs3 := cellF s3
  clear c0 c1 c2 c3 c4 c5 e0 e1 e2 s0 s1 s2 s3 hz hx hy z0 z1 x0 x1 y0 y1 k0 k9 m0 m1 r0 r1 v0 v1 g1 g2 g3 g4 g5 g6
  by_cases hq : l1 = r1'
  · have d : (l1 == r1') = true := by simpa using hq
    have HX : Hid (T = (l2 == r2')) := hid (by rw [HB5.out, d]; rfl)
    clear hq HB5
    go_wp2_with fail
    refine wp_region_up (by kernel_rfl) (by kernel_rfl) ?_
    repeat (go_big_quiet_step ((first
      | (go_at_call 72; first
        | ((with_reducible (show Calls _ _ #[_, .int .i64 G, _] _ _)); exact Calls.up_of (M1.out _))
        | ((with_reducible (show Calls _ _ #[_, .int .i64 p, _] _ _)); exact Calls.up_of (M3.out _)))
      | (go_at_call 73; first
        | ((with_reducible (show Calls _ _ #[_, .int .i64 k1, _, _, _] _ _)); exact Calls.up_of (M2.out _))
        | ((with_reducible (show Calls _ _ #[_, .int .i64 z, _, _, _] _ _)); exact Calls.up_of (M4.out _))))))
    refine wpQuiet_nil ?_
    rintro _ ⟨p', rfl⟩
    go_wp2
    go_ret
    exact ⟨by rw [HX.out]; rfl, HU4.out.trans p'.up⟩
  · have d : (l1 == r1') = false := by simpa using hq
    have hX : T = false := by rw [HB5.out, d]; rfl
    subst hX
    clear hq HB5
    go_wp2_with fail
    refine wp_region_up (by kernel_rfl) (by kernel_rfl) ?_
    repeat (go_big_quiet_step ((first
      | (go_at_call 72; first
        | ((with_reducible (show Calls _ _ #[_, .int .i64 G, _] _ _)); exact Calls.up_of (M1.out _))
        | ((with_reducible (show Calls _ _ #[_, .int .i64 p, _] _ _)); exact Calls.up_of (M3.out _)))
      | (go_at_call 73; first
        | ((with_reducible (show Calls _ _ #[_, .int .i64 k1, _, _, _] _ _)); exact Calls.up_of (M2.out _))
        | ((with_reducible (show Calls _ _ #[_, .int .i64 z, _, _, _] _ _)); exact Calls.up_of (M4.out _))))))
    refine wpQuiet_nil ?_
    rintro _ ⟨p', rfl⟩
    go_wp2
    go_ret
    exact ⟨rfl, HU4.out.trans p'.up⟩
end Go.Proofs.YtdbhleinhpiohaaGreatDoor
namespace Go.Proofs.YtdbhleinhpiohaaGreatDoor
open Go.RowKit Go.Sp
set_option maxHeartbeats 2000000
set_option maxRecDepth 20000

theorem rbytes_any (n : Int) (w : World) (_h0 : 0 ≤ n) (_h1 : n ≤ 9223372036854775807) :
    Calls Tryz.prog 112 #[.int .i64 n] w fun e w' => ∃ v, e = .returned v ∧ OwnS 5 .u8 w' w.heap.size v (beL 8 n) ∧ Up w w' := by
  have HT := hid (beL_take n)
  have HL := hid (beL_length 8 n)
  obtain ⟨S, hS⟩ : ∃ S, beL 8 n = S := ⟨_, rfl⟩
  rw [hS] at HT HL
  rw [hS]
  clear hS
  obtain ⟨o, ho⟩ : ∃ o, w.heap.size = o := ⟨_, rfl⟩
  have HOo := hid ho
  clear ho
  have HLen : Hid (∀ k, k ≤ 8 → (S.take k).length = k) := hid (fun k hk => by rw [List.length_take, HL.out]; omega)
  go_enter Tryz.func112, Tryz.ntmps112
  go_wp2_with fail
  go_loopw [3, 4] (fun vp vi wr => ∃ (k : Nat) (p : Option Addr) (cp : Nat) (j : Int), k ≤ 8 ∧ vi = .int .i64 j ∧ vp = .slice p k cp ∧ -1 ≤ j ∧ j ≤ 7 ∧ Hid (j = 7 - (k : Int)) ∧ Hid (OwnS 5 .u8 wr o (.slice p k cp) (S.take k)) ∧ Hid (Up w wr)) (fun _ vi _ => (intOf vi + 1).toNat)
  case atStart => exact ⟨0, none, 0, 7, by omega, rfl, rfl, by omega, by omega, hid rfl, hid own_none, hid (Up.refl w)⟩
  case round =>
    obtain ⟨k, p, cp, j, hk, rfl, rfl, j0, j1, HJ, HO, HU⟩ := hrel
    by_cases hlt : k < 8
    · have hj := HJ.out
      have hj0 : 0 ≤ j := by omega
      have d0 : decide (j ≥ 0) = true := by simpa using hj0
      have hj8 : (0 : Int) ≤ 8 * j := by omega
      have HE : Hid ((8 * j).toNat = 56 - 8 * k) := hid (by omega)
      have HTk : Hid (S.take k ++ [n / 2 ^ (8 * j).toNat % 256] = S.take (k + 1)) := hid (by rw [HT.out k hlt, HE.out])
      have HLk := hid (HLen.out k (by omega))
      have HLk1 := hid (HLen.out (k + 1) (by omega))
      have hbs : o ≤ wr.heap.size := by have := HU.out.size; have := HOo.out; omega
      have HJ2 : Hid (j - 1 = 7 - ((k + 1 : Nat) : Int)) := hid (by omega)
      clear hj
      go_wp2_with (at_builtin; refine wp_app infoU8 Tryz.underlying73 (by omega) rfl _ _ rfl o rfl rfl (HO.out.up ((Up.refl wr).alloc _)) (seq_new _ _ _) (by have := HLk.out; simp; omega) (by simp; omega) ?_; intro v' w' hO' hg')
      have hU' := (HU.out.alloc _).own (HO.out.up ((Up.refl wr).alloc _)) hg' (by have := HOo.out; omega)
      rw [HTk.out] at hO'
      obtain ⟨p', k', rfl, _, _⟩ := hO'.shape
      rw [HLk1.out] at hO'
      rw [HLk1.out]
      have HO' := hid hO'
      have HU' := hid hU'
      clear hO' hU' hg' HO HU
      go_wp2_with fail
      go_roundw
      case rel => exact ⟨k + 1, p', k', j - 1, by omega, rfl, rfl, by omega, by omega, HJ2, HO', HU'⟩
      case measure => simp [intOf]; omega
    · obtain rfl : k = 8 := by omega
      have d0 : decide (j ≥ 0) = false := by have := HJ.out; simp; omega
      have HE : Hid (S.take 8 = S) := hid (List.take_of_length_le (by rw [HL.out]; omega))
      go_wp2
      go_ret
      exact ⟨_, rfl, by rw [HOo.out, ← HE.out]; exact HO.out, HU.out⟩

theorem rconst_any (g : Nat) (w : World) (hg : w.heap.size = g) :
    Calls Tryz.prog 99 #[] w fun e w' => e = .returned (.slice (some ⟨g, 0, none⟩) 64 64) ∧ Blk w' g 113 (arrK .u32 (fun i => shaK.getD i 0) 64) ∧ Up w w' := by
  subst hg
  go_enter Tryz.func99, Tryz.ntmps99
  go_wp2
  go_ret
  exact ⟨rfl, Blk.new rfl (by kernel_rfl), (Up.refl w).alloc _⟩

theorem rpadded_any (v : Value) (xs : List Int) (w : World) (hv : SeqAt .u8 w v xs) (hl : xs.length ≤ 1099511627000) :
    Calls Tryz.prog 100 #[v] w fun e w' => ∃ v', e = .returned v' ∧ OwnS 5 .u8 w' w.heap.size v' (padL xs) ∧ Up w w' := by
  have HV := hid hv
  obtain ⟨a0, cap, rfl, hcap1, hcap2⟩ := hv.shape
  obtain ⟨n, hn⟩ : ∃ n, xs.length = n := ⟨_, rfl⟩
  obtain ⟨Z, hZ⟩ : ∃ Z, padZ n = Z := ⟨_, rfl⟩
  have HP : Hid (padL xs = padTo xs Z ++ beL 8 (8 * n)) := hid (by rw [padL_eq, hn, hZ])
  have hZ2 : ((n + 1 + Z) % 64 = 56 ∧ Z ≤ 63) ∧ ∀ z, z < Z → (n + 1 + z) % 64 ≠ 56 := by
    rw [← hZ]
    unfold padZ
    refine ⟨⟨by omega, by omega⟩, fun z hz => by omega⟩
  have HZ := hid hZ2
  have HLt := hid (fun z => padTo_length xs z)
  rw [hn] at HLt
  have HStep := hid (padTo_step xs)
  have HZero : Hid (xs ++ [128] = padTo xs 0) := hid (by simp [padTo])
  have HXN := hid hn
  rw [hn] at hl hcap1 HV
  rw [hn]
  obtain ⟨o, ho⟩ : ∃ o, w.heap.size = o := ⟨_, rfl⟩
  have HOo := hid ho
  have HBy := hid (fun w' => rbytes_any (8 * n) w' (by omega) (by omega))
  clear hv hn hZ hZ2 ho
  go_enter Tryz.func100, Tryz.ntmps100
  go_wp2_with (first
    | (at_builtin; refine wp_app infoU8 Tryz.underlying73 (by omega) rfl _ _ rfl w.heap.size (v := .slice (some ⟨w.heap.size, 0, none⟩) 0 0) rfl rfl (own_empty (Blk.new rfl rfl) (Nat.le_refl _)) (HV.out.up ((Up.refl w).alloc _)) (by have := HXN.out; simp; omega) (by simp) ?_; intro v1 w1 hO1 hg1; have hU1 := Up.own ((Up.refl w).alloc _) (own_empty (e := 5) (k := .u8) (Blk.new rfl rfl) (Nat.le_refl _)) hg1 (Nat.le_refl _); have hs1 := hU1.size)
    | (at_builtin; refine wp_app infoU8 Tryz.underlying73 (by omega) rfl _ _ rfl w.heap.size rfl rfl (hO1.up ((Up.refl w1).alloc _)) (seq_new _ _ _) (by have := HXN.out; simp; omega) (by simp; omega) ?_; intro v2 w2 hO2 hg2; have hU2 := (hU1.alloc _).own (hO1.up ((Up.refl w1).alloc _)) hg2 (Nat.le_refl _)))
  rw [List.nil_append, HZero.out] at hO2
  obtain ⟨p2, k2, rfl, _, _⟩ := hO2.shape
  have HLt0 : (padTo xs 0).length = n + 1 := HLt.out 0
  rw [HLt0] at hO2
  rw [HLt0]
  rw [HOo.out] at hO2
  clear HLt0
  have HO2 := hid hO2
  have HU2 := hid hU2
  clear hO1 hO2 hU1 hU2 hg1 hg2 hs1
  go_wp2_with fail
  go_loopw [3] (fun vp wr => ∃ (z : Nat) (p : Option Addr) (c : Nat), z ≤ Z ∧ vp = .slice p (n + 1 + z) c ∧ Hid (OwnS 5 .u8 wr o (.slice p (n + 1 + z) c) (padTo xs z)) ∧ Hid (Up w wr)) (fun vp _ => n + 1 + Z - lenOf vp)
  case atStart => exact ⟨0, _, _, by omega, rfl, HO2, HU2⟩
  case round =>
    clear HO2 HU2
    obtain ⟨z, p, c, hz, rfl, HO, HU⟩ := hrel
    have hsz : o ≤ wr.heap.size := by have := HU.out.size; have := HOo.out; omega
    by_cases hlt : z < Z
    · have HL := hid (HLt.out z)
      have HS := hid (HStep.out z)
      have HS1 := hid (HLt.out (z + 1))
      have hne := HZ.out.2 z hlt
      have hm : n + 1 + z ≤ n + 70 := by have := HZ.out.1.2; omega
      obtain ⟨m, hme⟩ : ∃ m, n + 1 + z = m := ⟨_, rfl⟩
      have HM := hid hme
      rw [hme] at HO HL hne hm
      rw [hme]
      clear hme
      have d1 : ((m : Int) % 64 != 56) = true := by simp; omega
      go_wp2_with (at_builtin; refine wp_app infoU8 Tryz.underlying73 (by omega) rfl _ _ rfl o rfl rfl (HO.out.up ((Up.refl wr).alloc _)) (seq_new _ _ _) (by have := HL.out; simp; omega) (by simp; omega) ?_; intro v' w' hO' hg')
      have hU' := (HU.out.alloc _).own (HO.out.up ((Up.refl wr).alloc _)) hg' (by have := HOo.out; omega)
      rw [HS.out] at hO'
      obtain ⟨p', k', rfl, _, _⟩ := hO'.shape
      rw [HS1.out] at hO'
      rw [HS1.out]
      have HO' := hid hO'
      have HU' := hid hU'
      clear hO' hU' hg'
      go_wp2_with fail
      go_roundw
      case rel => exact ⟨z + 1, _, _, by omega, rfl, HO', HU'⟩
      case measure =>
        have := HM.out
        simp
        omega
    · have hzZ : z = Z := by omega
      have HzZ := hid hzZ
      have HL := hid (HLt.out z)
      have d1 : (((n + 1 + z : Nat) : Int) % 64 != 56) = false := by
        have := HZ.out.1.1
        rw [← hzZ] at this
        simp
        omega
      have hm : n + 1 + z ≤ n + 70 := by have := HZ.out.1.2; omega
      clear hzZ
      obtain ⟨m, hme⟩ : ∃ m, n + 1 + z = m := ⟨_, rfl⟩
      have HM := hid hme
      rw [hme] at HO HL hm d1
      rw [hme]
      clear hme hlt hz
      go_wp2_with fail
      refine (HBy.out _).mono ?_
      rintro e w4 ⟨v4, rfl, hO4, hU4⟩
      have hsz4 := hU4.size
      have HPP : Hid (padTo xs z ++ beL 8 (8 * (n : Int)) = padL xs) := hid (by rw [HzZ.out, HP.out])
      go_wp2_with (at_builtin; refine wp_app infoU8 Tryz.underlying73 (by omega) rfl _ _ rfl o rfl rfl (HO.out.up hU4) hO4.seq (by have := HL.out; simp [beL_length]; omega) (by omega) ?_; intro v5 w5 hO5 hg5)
      have hU5 := (HU.out.trans hU4).own (HO.out.up hU4) hg5 (by have := HOo.out; omega)
      rw [HPP.out] at hO5
      go_ret
      exact ⟨_, rfl, by rw [HOo.out]; exact hO5, hU5⟩
end Go.Proofs.YtdbhleinhpiohaaGreatDoor
