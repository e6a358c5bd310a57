/- append onto the call's own, and where the new slice lies. Over any program. Package encode: numbers in bytes. -/
import Derived.Test.YtdlcmpbpdbpanaaGreatDoorMUnlinkExplains17
import Derived.Test.YtdlcmpbpdbpanaaGreatDoorMUnlinkExplains30
import Derived.Maps.AppendAt
namespace Go.Sp
open Go.RowKit

/-- append(v, u...) onto the call's own, u not empty; the new slice lies where the old one lay, or in a new block. -/
theorem wp_app_at {P : Program} {e t : TypeId} {k : IntKind} {bytes : Nat} (hI : (P.info? e).map (fun i => (i.zero, i.size, i.bytes)) = some (some (.int k 0), 1, bytes)) (ht : P.underlying t = some (.slice e)) (hby : bytes ≤ 8)
    {ops : Array Oper} {rest : List Oper} {o : Oper} {a : Act} {w : World} {Q : Exit → Act → World → Prop} (hgd : o.guard = none) (s x : Operand)
    (ho : o.op = .call { callee := .builtin .append, args := #[s, x], argTypes := #[t, t] })
    (base : Nat) {v u : Value} {xs ys : List Int} (hs : a.eval s = v) (hx : a.eval x = u) (hown : OwnS e k w base v xs) (hsrc : SeqAt k w u ys) (hne : ys ≠ []) (hroom : xs.length + ys.length ≤ 17592186044416) (hbase : base ≤ w.heap.size)
    (h : ∀ v' w', OwnS e k w' base v' (xs ++ ys) → w.grownBy w' v.ownBlock → (v'.ownBlock = v.ownBlock ∨ v'.ownBlock = some w.heap.size) → wpList P ops Q rest (a.put o.dst v') w') : wpList P ops Q (o :: rest) a w := by
  obtain ⟨i0, hi, hz0, hz1, hz2⟩ := info_parts hI
  obtain ⟨ad, cap, rfl, _, _, hcap, hc⟩ := hsrc
  have hown' : w.ownsRow base e 1 v xs.length (xs.map (Value.int k)) := hown
  obtain ⟨b, off, rfl, hcell⟩ := hc hne
  refine wpList_append_own_at w hgd s x t ho base e i0 (.int k 0) 1 bytes ht hi hz0 hz1 hz2 rfl (by decide) v xs.length _ hs hown' ⟨b, off, none⟩ ys.length cap (ys.map (Value.int k)) hx (by simp) (fun j u hj => by
      simp only [List.getElem?_map, Option.map_eq_some_iff] at hj
      obtain ⟨y, hy, rfl⟩ := hj
      have hj2 : j < ys.length := (List.getElem?_eq_some_iff.1 hy).1
      have := hcell j hj2
      rw [Addr.add_lit, this]
      simp [hy]) (ints_oneCell _ _) (by unfold maxLen; omega) (by
      have := Nat.mul_le_mul hroom hby
      omega) hbase fun v' w' h1 h2 _ h4 => h v' w' (by
        unfold OwnS
        rw [List.length_append, List.map_append]
        exact h1) h2 h4

/-- The block of the call's own numbers is none of another type. -/
theorem OwnS.apart {e t : TypeId} {k : IntKind} {w : World} {base g : Nat} {v : Value} {xs : List Int} {cs : Array Value} (h : OwnS e k w base v xs) (hb : Blk w g t cs) (hne : t ≠ e) : some g ≠ v.ownBlock := by
  rcases h.2 with ⟨rfl, _⟩ | ⟨g', cap, cur, rfl, _, hg, _⟩
  · simp [Value.ownBlock]
  · intro he
    simp [Value.ownBlock] at he
    subst he
    have hb' : w.heap[g]? = some (.cells cs t (0, 0)) := hb
    rw [hb'] at hg
    simp only [Option.some.injEq, Obj.cells.injEq] at hg
    exact hne hg.2.1

theorem grownBy_trans {a b c : World} {r s : Option Nat} (h : a.grownBy b r) (k : b.grownBy c s) (hs : s = r ∨ ∀ j, s = some j → a.heap.size ≤ j) : a.grownBy c r :=
  ⟨k.os.trans h.os, k.tape.trans h.tape, k.output.trans h.output, Nat.le_trans h.size k.size, fun i hi hr => (k.block i (Nat.lt_of_lt_of_le hi h.size) (by
    rcases hs with rfl | hs
    · exact hr
    · intro he
      have := hs i he.symm
      omega)).trans (h.block i hi hr)⟩

theorem grownBy_up {a b : World} {r : Option Nat} (h : Up a b) : a.grownBy b r := ⟨h.below.os, h.below.tape, h.below.output, h.size, fun _ hk _ => h.block hk⟩
theorem seq_new_at {k : IntKind} {w : World} {g : Nat} {x : Int} {t : TypeId} (hg : w.heap.size = g) : SeqAt k (w.alloc (.cells #[.int k x] t)) (.slice (some ⟨g, 0, none⟩) 1 1) [x] := by
  subst hg
  exact seq_new w x t
end Go.Sp
namespace Go.Proofs.YtdlcmpbpdbpanaaGreatDoor
open Go.RowKit Go.Sp
set_option maxHeartbeats 2000000
set_option maxRecDepth 20000

theorem encNumber_any (n : Int) (size : Nat) (base : Nat) (v : Value) (xs : List Int) (w : World) (h : OwnS 5 .u8 w base v xs) (hb : base ≤ w.heap.size) (hs : size ≤ 8) (_h0 : 0 ≤ n) (_h1 : n < 18446744073709551616) (hl : xs.length ≤ 2000000000) :
    Calls Tryz.prog 233 #[v, .int .u64 n, .int .i64 size] w fun e w' => ∃ v', e = .returned v' ∧ OwnS 5 .u8 w' base v' (xs ++ beL size n) ∧ w.grownBy w' v.ownBlock := by
  have HO0 := hid h
  have HStep := hid (beL_snoc size n)
  have HBl := hid (beL_length size n)
  obtain ⟨S, hS⟩ : ∃ S, beL size n = S := ⟨_, rfl⟩
  rw [hS] at HStep HBl
  rw [hS]
  obtain ⟨m, hm⟩ : ∃ m, xs.length = m := ⟨_, rfl⟩
  have HM := hid hm
  rw [hm] at hl
  obtain ⟨p0, c0, rfl, _, _⟩ := h.shape
  rw [hm] at HO0
  rw [hm]
  obtain ⟨r, hr⟩ : ∃ r, (Value.slice p0 m c0).ownBlock = r := ⟨_, rfl⟩
  have HR := hid hr
  rw [hr]
  have HLen : Hid (∀ i, i ≤ size → (xs ++ S.take i).length = m + i) := hid (fun i hi => by rw [List.length_append, HM.out, List.length_take, HBl.out]; omega)
  rw [show xs = xs ++ S.take 0 by simp] at HO0
  clear hS hm h hr
  go_enter Tryz.func233, Tryz.ntmps233
  go_wp2_with fail
  go_loopw [0, 7] (fun vp vk wr => ∃ (i : Nat) (p : Option Addr) (cp : Nat) (j : Int), i ≤ size ∧ vk = .int .i64 j ∧ vp = .slice p (m + i) cp ∧ Hid (j = (size : Int) - 1 - i) ∧ -1 ≤ j ∧ j ≤ 7 ∧ Hid (OwnS 5 .u8 wr base (.slice p (m + i) cp) (xs ++ S.take i)) ∧ Hid (w.grownBy wr r) ∧ Hid ((Value.slice p (m + i) cp).ownBlock = r ∨ ∀ k, (Value.slice p (m + i) cp).ownBlock = some k → w.heap.size ≤ k)) (fun _ vk _ => (intOf vk + 1).toNat)
  case atStart => exact ⟨0, p0, c0, _, by omega, rfl, rfl, hid (by simp), by omega, by omega, HO0, hid (World.grownBy.refl _ _), hid (.inl HR.out)⟩
  case round =>
    clear HO0
    obtain ⟨i, p, cp, j, hi, rfl, rfl, HJ, hj1, hj2, HO, HG, HX⟩ := hrel
    by_cases hlt : i < size
    · have hj0 : 0 ≤ j := by have := HJ.out; omega
      have d0 : decide (j ≥ 0) = true := by simpa using hj0
      have HT := hid (HStep.out i hlt)
      have HL1 := hid (HLen.out i (by omega))
      have HL2 := hid (HLen.out (i + 1) (by omega))
      have HE : Hid ((8 * j).toNat = 8 * (size - 1 - i)) := hid (by have := HJ.out; omega)
      have hj8 : (0 : Int) ≤ 8 * j := by omega
      have hbs : base ≤ wr.heap.size := by have := HG.out.size; omega
      obtain ⟨q, hq⟩ : ∃ q, m + i = q := ⟨_, rfl⟩
      have HQ := hid hq
      have hq0 : q ≤ 2000000008 := by omega
      rw [hq] at HO HL1 HX
      rw [hq]
      clear hq
      go_wp2_with (at_builtin; refine wp_app_at infoU8 Tryz.underlying51 (by omega) rfl _ _ rfl base rfl rfl (HO.out.up ((Up.refl wr).alloc _)) (seq_new _ _ _) (by simp) (by have := HL1.out; simp; simp at this; omega) (by simp; omega) ?_; intro v' w' hO' hg' hx')
      have hO2 : OwnS 5 .u8 w' base v' (xs ++ S.take (i + 1)) := by
        rw [HT.out, ← List.append_assoc, ← HE.out]; exact hO'
      have hG2 : w.grownBy w' r := by
        refine grownBy_trans HG.out (grownBy_trans (grownBy_up ((Up.refl wr).alloc _)) hg' (.inl rfl)) ?_
        rcases HX.out with h | h
        · exact .inl h
        · exact .inr h
      have hX2 : v'.ownBlock = r ∨ ∀ k, v'.ownBlock = some k → w.heap.size ≤ k := by
        rcases hx' with h | h
        · rw [h]; exact HX.out
        · refine .inr fun k hk => ?_
          rw [h] at hk
          simp only [Option.some.injEq] at hk
          have := HG.out.size
          simp at hk
          omega
      obtain ⟨p', k', rfl, _, _⟩ := hO2.shape
      rw [HL2.out] at hO2 hX2
      rw [HL2.out]
      have HO2 := hid hO2
      have HG2 := hid hG2
      have HX2 := hid hX2
      have HJ2 : Hid (j - 1 = (size : Int) - 1 - ((i + 1 : Nat) : Int)) := hid (by have := HJ.out; omega)
      clear hO' hg' hx' hO2 hG2 hX2 HO HG HX
      go_wp2_with fail
      go_roundw
      case rel => exact ⟨i + 1, p', k', j - 1, by omega, rfl, rfl, HJ2, by omega, by omega, HO2, HG2, HX2⟩
      case measure => simp [intOf]; omega
    · have d0 : decide (j ≥ 0) = false := by have := HJ.out; simp; omega
      have HSe : Hid (xs ++ S.take i = xs ++ S) := hid (by rw [List.take_of_length_le (by rw [HBl.out]; omega)])
      go_wp2
      go_ret
      exact ⟨_, rfl, by rw [← HSe.out]; exact HO.out, HG.out⟩
end Go.Proofs.YtdlcmpbpdbpanaaGreatDoor
