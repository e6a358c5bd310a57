/- Package encode: valid items; numbers. append onto the call's own, and where the new slice lies. Over any program. Package encode: numbers in bytes. -/
import Derived.Test.YtdlcmpbpdbpanaaDoorMSignatureFits12
import Derived.Test.YtdlcmpbpdbpanaaDoorMSignatureFits13
import Derived.Test.YtdlcmpbpdbpanaaDoorMSignatureFits11
import Derived.Maps.AppendAt
namespace Go.Proofs.YtdlcmpbpdbpanaaDoor
open Go.RowKit Go.Sp
set_option maxHeartbeats 2000000
set_option maxRecDepth 20000

theorem within_1 (D k n : Int) (b l : Value) (g : Nat) (w : World) (hb : w.cell? ⟨g, 0, none⟩ = some (.int .i64 D)) (h1 : 1 ≤ D) (h8 : D ≤ 8)
    (hf : ∀ w', Up w w' → Calls Tryd.prog 153 #[itm k n b l, .int .i64 (D - 1)] w' fun e w'' => e = .returned (.bool true) ∧ Up w' w'') :
    Calls Tryd.prog 182 #[itm k n b l, .pointer (some ⟨g, 0, none⟩)] w fun e w' => e = .returned (.bool false) ∧ Up w w' := by
  have HF := hid hf
  clear hf
  go_enter Tryd.func182, Tryd.ntmps182
  have lg := cell_in hb
  go_wp2_with fail
  refine (HF.out _ ((Up.refl w).alloc _)).mono ?_
  rintro e w1 ⟨rfl, hU1⟩
  go_wp2
  go_ret
  exact ⟨rfl, ((Up.refl w).alloc _).trans hU1⟩

theorem IndexFuncQ (c : Value) (ess : List (List Int)) (R : Int → Int → Value → Value → List Int → Prop) (v : Value) (w : World) (hv : ItmRow R w v ess)
    (hf : ∀ k n b l es, R k n b l es → ∀ w', Up w w' → Calls Tryd.prog 182 #[itm k n b l, c] w' fun e w'' => e = .returned (.bool false) ∧ Up w' w'') :
    Calls Tryd.prog 200 #[v, .func (.func 182) #[] #[c]] w fun e w' => e = .returned (.int .i64 (-1)) ∧ Up w w' := by
  have HF := hid hf
  clear hf
  obtain ⟨a, cap, rfl, hc, hc63, _, hi⟩ := hv
  obtain ⟨m, hm⟩ : ∃ m, ess.length = m := ⟨_, rfl⟩
  rw [hm] at hc hi
  rw [hm]
  have HI := hid hi
  clear hi hm
  go_enter Tryd.func200, Tryd.ntmps200
  go_wp2_with fail
  go_loopw [8] (fun vi wr => ∃ i : Nat, i ≤ m ∧ vi = .int .i64 i ∧ Hid (Up w wr)) (fun vi _ => m - (intOf vi).toNat)
  case atStart => exact ⟨0, by omega, rfl, hid (Up.refl _)⟩
  case round =>
    obtain ⟨i, him, rfl, HU⟩ := hrel
    by_cases hl : i < m
    · obtain ⟨b, off, k, n, vb, vl, rfl, hc, hr⟩ := HI.out i hl
      obtain ⟨c0, c1, c2, c3⟩ := hc.up HU.out
      have HE := hid (HF.out k n vb vl _ hr)
      clear hc hr
      go_wp2_with fail
      refine (HE.out _ HU.out).mono ?_
      rintro e w2 ⟨rfl, hU2⟩
      have HU2 := hid (HU.out.trans hU2)
      clear hU2 c0 c1 c2 c3 HE
      go_wp2_with fail
      go_roundw
      case rel => exact ⟨i + 1, by omega, by go_num, HU2⟩
      case measure => simp [intOf]; omega
    · have hl2 : decide (i < m) = false := by simpa using hl
      go_wp2
      go_ret
      exact ⟨rfl, HU.out⟩

theorem ContainsFuncQ (c : Value) (ess : List (List Int)) (R : Int → Int → Value → Value → List Int → Prop) (v : Value) (w : World) (hv : ItmRow R w v ess)
    (hf : ∀ k n b l es, R k n b l es → ∀ w', Up w w' → Calls Tryd.prog 182 #[itm k n b l, c] w' fun e w'' => e = .returned (.bool false) ∧ Up w' w'') :
    Calls Tryd.prog 181 #[v, .func (.func 182) #[] #[c]] w fun e w' => e = .returned (.bool false) ∧ Up w w' := by
  have HI := hid (IndexFuncQ c ess R v w hv hf)
  clear hf hv
  go_enter Tryd.func181, Tryd.ntmps181
  go_wp2_with fail
  refine HI.out.mono ?_
  rintro e w2 ⟨rfl, hU2⟩
  go_wp2
  go_ret
  exact ⟨rfl, hU2⟩

theorem within_list (D : Int) (v : Value) (ess : List (List Int)) (R : Int → Int → Value → Value → List Int → Prop) (w : World) (h1 : 1 ≤ D) (h8 : D ≤ 8) (hl : ess.length ≤ 1000) (hv : ItmRow R w v ess)
    (hf : ∀ k n b l es, R k n b l es → ∀ w', Up w w' → Calls Tryd.prog 153 #[itm k n b l, .int .i64 (D - 1)] w' fun e w'' => e = .returned (.bool true) ∧ Up w' w'') :
    Calls Tryd.prog 153 #[itm 3 0 nilS v, .int .i64 D] w fun e w' => e = .returned (.bool true) ∧ Up w w' := by
  have HF := hid hf
  have HV := hid hv
  obtain ⟨a, cap, rfl, hc, hc63, _, _⟩ := hv
  obtain ⟨m, hm⟩ : ∃ m, ess.length = m := ⟨_, rfl⟩
  rw [hm] at HV hl hc
  rw [hm]
  have d1 : decide (D > 0) = true := by simp; omega
  have d2 : decide ((m : Int) ≤ 1000) = true := by simp; omega
  clear hf hm
  go_enter Tryd.func153, Tryd.ntmps153
  go_wp2_with fail
  have hg : ((w.alloc (.cells #[.int .i64 3, .int .i64 0, nilS, .slice a m cap] 87)).alloc (.cells #[.int .i64 D] 3)).cell? ⟨w.heap.size + 1, 0, none⟩ = some (.int .i64 D) := (Blk.new (cs := #[.int .i64 D]) (t := 3) (w := w.alloc (.cells #[.int .i64 3, .int .i64 0, nilS, .slice a m cap] 87)) (by simp) rfl).val rfl
  have HG := hid hg
  clear hg
  refine (ContainsFuncQ (.pointer (some ⟨w.heap.size + 1, 0, none⟩)) ess R _ _ (HV.out.up (((Up.refl w).alloc _).alloc _) fun _ _ _ _ _ h => h) (fun k n b l es hr w' hU => within_1 D k n b l _ w' (by rw [hU.cell (cell_in HG.out)]; exact HG.out) h1 h8 fun w'' hU2 => HF.out k n b l es hr w'' ((((Up.refl w).alloc _).alloc _).trans (hU.trans hU2)))).mono ?_
  rintro e w1 ⟨rfl, hU1⟩
  go_wp2
  go_ret
  exact ⟨rfl, (((Up.refl w).alloc _).alloc _).trans hU1⟩

theorem within_leaf (D k n : Int) (b l : Value) (es : List Int) (w : World) (h : Leaf w k n b l es) :
    Calls Tryd.prog 153 #[itm k n b l, .int .i64 D] w fun e w' => e = .returned (.bool true) ∧ Up w w' := by
  rcases h with ⟨rfl, rfl, rfl, _⟩ | ⟨rfl, rfl, rfl, xs, h, _⟩
  · go_enter Tryd.func153, Tryd.ntmps153
    go_wp2
    go_ret
    exact ⟨rfl, ((Up.refl w).alloc _).alloc _⟩
  · obtain ⟨a, cap, rfl, _⟩ := h
    go_enter Tryd.func153, Tryd.ntmps153
    go_wp2
    go_ret
    exact ⟨rfl, ((Up.refl w).alloc _).alloc _⟩

theorem within_ok : ∀ (d : Nat) (D k n : Int) (b l : Value) (es : List Int) (w : World), (d : Int) ≤ D → D ≤ 8 → ItmAt w d k n b l es →
    Calls Tryd.prog 153 #[itm k n b l, .int .i64 D] w fun e w' => e = .returned (.bool true) ∧ Up w w'
  | 0, D, k, n, b, l, es, w, _, _, h => within_leaf D k n b l es w h
  | d + 1, D, k, n, b, l, es, w, h1, h8, h => by
    rcases h with h | ⟨rfl, rfl, rfl, ess, hl, hr, _⟩
    · exact within_leaf D k n b l es w h
    · exact within_list D l ess _ w (by omega) h8 hl hr fun k n b l es h w' hU => within_ok d (D - 1) k n b l es w' (by omega) (by omega) (h.up hU)

theorem encValid_ok {d : Nat} {k n : Int} {b l : Value} {es : List Int} {w : World} (h : ItmAt w d k n b l es) (hd : d ≤ 8) :
    Calls Tryd.prog 119 #[itm k n b l] w fun e w' => e = .returned (.bool true) ∧ Up w w' := by
  have HW := hid (fun w' (hU : Up w w') => within_ok d 8 k n b l es w' (by omega) (by omega) (h.up hU))
  clear h
  go_enter Tryd.func119, Tryd.ntmps119
  go_wp2_with fail
  refine (HW.out _ ((Up.refl w).alloc _)).mono ?_
  rintro e w1 ⟨rfl, hU1⟩
  go_wp2
  go_ret
  exact ⟨rfl, ((Up.refl w).alloc _).trans hU1⟩

theorem beL_snoc (size : Nat) (n : Int) (i : Nat) (hi : i < size) : (beL size n).take (i + 1) = (beL size n).take i ++ [n / 2 ^ (8 * (size - 1 - i)) % 256] := by
  rw [List.take_add_one]
  congr 1
  have : i < (beL size n).length := by rw [beL_length]; exact hi
  rw [List.getElem?_eq_getElem this]
  simp [beL]
end Go.Proofs.YtdlcmpbpdbpanaaDoor
namespace Go.Sp
open Go.RowKit

/-- append(v, u...) onto the call's own, u not empty; the new slice lies where the old one lay, or in a new block. -/
theorem wp_app_at {P : Program} {e t : TypeId} {k : IntKind} {bytes : Nat} (hI : (P.info? e).map (fun i => (i.zero, i.size, i.bytes)) = some (some (.int k 0), 1, bytes)) (ht : P.underlying t = some (.slice e)) (hby : bytes ≤ 8)
    {ops : Array Oper} {rest : List Oper} {o : Oper} {a : Act} {w : World} {Q : Exit → Act → World → Prop} (hgd : o.guard = none) (s x : Operand)
    (ho : o.op = .call { callee := .builtin .append, args := #[s, x], argTypes := #[t, t] })
    (base : Nat) {v u : Value} {xs ys : List Int} (hs : a.eval s = v) (hx : a.eval x = u) (hown : OwnS e k w base v xs) (hsrc : SeqAt k w u ys) (hne : ys ≠ []) (hroom : xs.length + ys.length ≤ 17592186044416) (hbase : base ≤ w.heap.size)
    (h : ∀ v' w', OwnS e k w' base v' (xs ++ ys) → w.grownBy w' v.ownBlock → (v'.ownBlock = v.ownBlock ∨ v'.ownBlock = some w.heap.size) → wpList P ops Q rest (a.put o.dst v') w') : wpList P ops Q (o :: rest) a w := by
  obtain ⟨i0, hi, hz0, hz1, hz2⟩ := info_parts hI
  obtain ⟨ad, cap, rfl, _, _, hcap, hc⟩ := hsrc
  have hown' : w.ownsRow base e 1 v xs.length (xs.map (Value.int k)) := hown
  obtain ⟨b, off, rfl, hcell⟩ := hc hne
  refine wpList_append_own_at w hgd s x t ho base e i0 (.int k 0) 1 bytes ht hi hz0 hz1 hz2 rfl (by decide) v xs.length _ hs hown' ⟨b, off, none⟩ ys.length cap (ys.map (Value.int k)) hx (by simp) (fun j u hj => by
      simp only [List.getElem?_map, Option.map_eq_some_iff] at hj
      obtain ⟨y, hy, rfl⟩ := hj
      have hj2 : j < ys.length := (List.getElem?_eq_some_iff.1 hy).1
      have := hcell j hj2
      rw [Addr.add_lit, this]
      simp [hy]) (ints_oneCell _ _) (by unfold maxLen; omega) (by
      have := Nat.mul_le_mul hroom hby
      omega) hbase fun v' w' h1 h2 _ h4 => h v' w' (by
        unfold OwnS
        rw [List.length_append, List.map_append]
        exact h1) h2 h4

/-- The block of the call's own numbers is none of another type. -/
theorem OwnS.apart {e t : TypeId} {k : IntKind} {w : World} {base g : Nat} {v : Value} {xs : List Int} {cs : Array Value} (h : OwnS e k w base v xs) (hb : Blk w g t cs) (hne : t ≠ e) : some g ≠ v.ownBlock := by
  rcases h.2 with ⟨rfl, _⟩ | ⟨g', cap, cur, rfl, _, hg, _⟩
  · simp [Value.ownBlock]
  · intro he
    simp [Value.ownBlock] at he
    subst he
    have hb' : w.heap[g]? = some (.cells cs t (0, 0)) := hb
    rw [hb'] at hg
    simp only [Option.some.injEq, Obj.cells.injEq] at hg
    exact hne hg.2.1

theorem grownBy_trans {a b c : World} {r s : Option Nat} (h : a.grownBy b r) (k : b.grownBy c s) (hs : s = r ∨ ∀ j, s = some j → a.heap.size ≤ j) : a.grownBy c r :=
  ⟨k.os.trans h.os, k.tape.trans h.tape, k.output.trans h.output, Nat.le_trans h.size k.size, fun i hi hr => (k.block i (Nat.lt_of_lt_of_le hi h.size) (by
    rcases hs with rfl | hs
    · exact hr
    · intro he
      have := hs i he.symm
      omega)).trans (h.block i hi hr)⟩

theorem grownBy_up {a b : World} {r : Option Nat} (h : Up a b) : a.grownBy b r := ⟨h.below.os, h.below.tape, h.below.output, h.size, fun _ hk _ => h.block hk⟩
theorem seq_new_at {k : IntKind} {w : World} {g : Nat} {x : Int} {t : TypeId} (hg : w.heap.size = g) : SeqAt k (w.alloc (.cells #[.int k x] t)) (.slice (some ⟨g, 0, none⟩) 1 1) [x] := by
  subst hg
  exact seq_new w x t
end Go.Sp
namespace Go.Proofs.YtdlcmpbpdbpanaaDoor
open Go.RowKit Go.Sp
set_option maxHeartbeats 2000000
set_option maxRecDepth 20000

theorem encNumber_any (n : Int) (size : Nat) (base : Nat) (v : Value) (xs : List Int) (w : World) (h : OwnS 5 .u8 w base v xs) (hb : base ≤ w.heap.size) (hs : size ≤ 8) (_h0 : 0 ≤ n) (_h1 : n < 18446744073709551616) (hl : xs.length ≤ 2000000000) :
    Calls Tryd.prog 154 #[v, .int .u64 n, .int .i64 size] w fun e w' => ∃ v', e = .returned v' ∧ OwnS 5 .u8 w' base v' (xs ++ beL size n) ∧ w.grownBy w' v.ownBlock := by
  have HO0 := hid h
  have HStep := hid (beL_snoc size n)
  have HBl := hid (beL_length size n)
  obtain ⟨S, hS⟩ : ∃ S, beL size n = S := ⟨_, rfl⟩
  rw [hS] at HStep HBl
  rw [hS]
  obtain ⟨m, hm⟩ : ∃ m, xs.length = m := ⟨_, rfl⟩
  have HM := hid hm
  rw [hm] at hl
  obtain ⟨p0, c0, rfl, _, _⟩ := h.shape
  rw [hm] at HO0
  rw [hm]
  obtain ⟨r, hr⟩ : ∃ r, (Value.slice p0 m c0).ownBlock = r := ⟨_, rfl⟩
  have HR := hid hr
  rw [hr]
  have HLen : Hid (∀ i, i ≤ size → (xs ++ S.take i).length = m + i) := hid (fun i hi => by rw [List.length_append, HM.out, List.length_take, HBl.out]; omega)
  rw [show xs = xs ++ S.take 0 by simp] at HO0
  clear hS hm h hr
  go_enter Tryd.func154, Tryd.ntmps154
  go_wp2_with fail
  go_loopw [0, 7] (fun vp vk wr => ∃ (i : Nat) (p : Option Addr) (cp : Nat) (j : Int), i ≤ size ∧ vk = .int .i64 j ∧ vp = .slice p (m + i) cp ∧ Hid (j = (size : Int) - 1 - i) ∧ -1 ≤ j ∧ j ≤ 7 ∧ Hid (OwnS 5 .u8 wr base (.slice p (m + i) cp) (xs ++ S.take i)) ∧ Hid (w.grownBy wr r) ∧ Hid ((Value.slice p (m + i) cp).ownBlock = r ∨ ∀ k, (Value.slice p (m + i) cp).ownBlock = some k → w.heap.size ≤ k)) (fun _ vk _ => (intOf vk + 1).toNat)
  case atStart => exact ⟨0, p0, c0, _, by omega, rfl, rfl, hid (by simp), by omega, by omega, HO0, hid (World.grownBy.refl _ _), hid (.inl HR.out)⟩
  case round =>
    clear HO0
    obtain ⟨i, p, cp, j, hi, rfl, rfl, HJ, hj1, hj2, HO, HG, HX⟩ := hrel
    by_cases hlt : i < size
    · have hj0 : 0 ≤ j := by have := HJ.out; omega
      have d0 : decide (j ≥ 0) = true := by simpa using hj0
      have HT := hid (HStep.out i hlt)
      have HL1 := hid (HLen.out i (by omega))
      have HL2 := hid (HLen.out (i + 1) (by omega))
      have HE : Hid ((8 * j).toNat = 8 * (size - 1 - i)) := hid (by have := HJ.out; omega)
      have hj8 : (0 : Int) ≤ 8 * j := by omega
      have hbs : base ≤ wr.heap.size := by have := HG.out.size; omega
      obtain ⟨q, hq⟩ : ∃ q, m + i = q := ⟨_, rfl⟩
      have HQ := hid hq
      have hq0 : q ≤ 2000000008 := by omega
      rw [hq] at HO HL1 HX
      rw [hq]
      clear hq
      go_wp2_with (at_builtin; refine wp_app_at infoU8 Tryd.underlying31 (by omega) rfl _ _ rfl base rfl rfl (HO.out.up ((Up.refl wr).alloc _)) (seq_new _ _ _) (by simp) (by have := HL1.out; simp; simp at this; omega) (by simp; omega) ?_; intro v' w' hO' hg' hx')
      have hO2 : OwnS 5 .u8 w' base v' (xs ++ S.take (i + 1)) := by
        rw [HT.out, ← List.append_assoc, ← HE.out]; exact hO'
      have hG2 : w.grownBy w' r := by
        refine grownBy_trans HG.out (grownBy_trans (grownBy_up ((Up.refl wr).alloc _)) hg' (.inl rfl)) ?_
        rcases HX.out with h | h
        · exact .inl h
        · exact .inr h
      have hX2 : v'.ownBlock = r ∨ ∀ k, v'.ownBlock = some k → w.heap.size ≤ k := by
        rcases hx' with h | h
        · rw [h]; exact HX.out
        · refine .inr fun k hk => ?_
          rw [h] at hk
          simp only [Option.some.injEq] at hk
          have := HG.out.size
          simp at hk
          omega
      obtain ⟨p', k', rfl, _, _⟩ := hO2.shape
      rw [HL2.out] at hO2 hX2
      rw [HL2.out]
      have HO2 := hid hO2
      have HG2 := hid hG2
      have HX2 := hid hX2
      have HJ2 : Hid (j - 1 = (size : Int) - 1 - ((i + 1 : Nat) : Int)) := hid (by have := HJ.out; omega)
      clear hO' hg' hx' hO2 hG2 hX2 HO HG HX
      go_wp2_with fail
      go_roundw
      case rel => exact ⟨i + 1, p', k', j - 1, by omega, rfl, rfl, HJ2, by omega, by omega, HO2, HG2, HX2⟩
      case measure => simp [intOf]; omega
    · have d0 : decide (j ≥ 0) = false := by have := HJ.out; simp; omega
      have HSe : Hid (xs ++ S.take i = xs ++ S) := hid (by rw [List.take_of_length_le (by rw [HBl.out]; omega)])
      go_wp2
      go_ret
      exact ⟨_, rfl, by rw [← HSe.out]; exact HO.out, HG.out⟩
end Go.Proofs.YtdlcmpbpdbpanaaDoor
