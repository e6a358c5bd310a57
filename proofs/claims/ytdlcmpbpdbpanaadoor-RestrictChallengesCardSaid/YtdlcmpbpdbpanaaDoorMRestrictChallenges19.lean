/- append onto the call's own, and where the new slice lies. Over any program. The reference's SHA-256: numbers in bytes, the padded form, the constants. -/
import Derived.Test.YtdlcmpbpdbpanaaDoorMRestrictChallenges17
import Derived.Test.YtdlcmpbpdbpanaaDoorMRestrictChallenges18
import Derived.Maps.AppendAt
namespace Go.Sp
open Go.RowKit

/-- append(v, u...) onto the call's own, u not empty; the new slice lies where the old one lay, or in a new block. -/
theorem wp_app_at {P : Program} {e t : TypeId} {k : IntKind} {bytes : Nat} (hI : (P.info? e).map (fun i => (i.zero, i.size, i.bytes)) = some (some (.int k 0), 1, bytes)) (ht : P.underlying t = some (.slice e)) (hby : bytes ≤ 8)
    {ops : Array Oper} {rest : List Oper} {o : Oper} {a : Act} {w : World} {Q : Exit → Act → World → Prop} (hgd : o.guard = none) (s x : Operand)
    (ho : o.op = .call { callee := .builtin .append, args := #[s, x], argTypes := #[t, t] })
    (base : Nat) {v u : Value} {xs ys : List Int} (hs : a.eval s = v) (hx : a.eval x = u) (hown : OwnS e k w base v xs) (hsrc : SeqAt k w u ys) (hne : ys ≠ []) (hroom : xs.length + ys.length ≤ 17592186044416) (hbase : base ≤ w.heap.size)
    (h : ∀ v' w', OwnS e k w' base v' (xs ++ ys) → w.grownBy w' v.ownBlock → (v'.ownBlock = v.ownBlock ∨ v'.ownBlock = some w.heap.size) → wpList P ops Q rest (a.put o.dst v') w') : wpList P ops Q (o :: rest) a w := by
  obtain ⟨i0, hi, hz0, hz1, hz2⟩ := info_parts hI
  obtain ⟨ad, cap, rfl, _, _, hcap, hc⟩ := hsrc
  have hown' : w.ownsRow base e 1 v xs.length (xs.map (Value.int k)) := hown
  obtain ⟨b, off, rfl, hcell⟩ := hc hne
  refine wpList_append_own_at w hgd s x t ho base e i0 (.int k 0) 1 bytes ht hi hz0 hz1 hz2 rfl (by decide) v xs.length _ hs hown' ⟨b, off, none⟩ ys.length cap (ys.map (Value.int k)) hx (by simp) (fun j u hj => by
      simp only [List.getElem?_map, Option.map_eq_some_iff] at hj
      obtain ⟨y, hy, rfl⟩ := hj
      have hj2 : j < ys.length := (List.getElem?_eq_some_iff.1 hy).1
      have := hcell j hj2
      rw [Addr.add_lit, this]
      simp [hy]) (ints_oneCell _ _) (by unfold maxLen; omega) (by
      have := Nat.mul_le_mul hroom hby
      omega) hbase fun v' w' h1 h2 _ h4 => h v' w' (by
        unfold OwnS
        rw [List.length_append, List.map_append]
        exact h1) h2 h4

/-- The block of the call's own numbers is none of another type. -/
theorem OwnS.apart {e t : TypeId} {k : IntKind} {w : World} {base g : Nat} {v : Value} {xs : List Int} {cs : Array Value} (h : OwnS e k w base v xs) (hb : Blk w g t cs) (hne : t ≠ e) : some g ≠ v.ownBlock := by
  rcases h.2 with ⟨rfl, _⟩ | ⟨g', cap, cur, rfl, _, hg, _⟩
  · simp [Value.ownBlock]
  · intro he
    simp [Value.ownBlock] at he
    subst he
    have hb' : w.heap[g]? = some (.cells cs t (0, 0)) := hb
    rw [hb'] at hg
    simp only [Option.some.injEq, Obj.cells.injEq] at hg
    exact hne hg.2.1

theorem grownBy_trans {a b c : World} {r s : Option Nat} (h : a.grownBy b r) (k : b.grownBy c s) (hs : s = r ∨ ∀ j, s = some j → a.heap.size ≤ j) : a.grownBy c r :=
  ⟨k.os.trans h.os, k.tape.trans h.tape, k.output.trans h.output, Nat.le_trans h.size k.size, fun i hi hr => (k.block i (Nat.lt_of_lt_of_le hi h.size) (by
    rcases hs with rfl | hs
    · exact hr
    · intro he
      have := hs i he.symm
      omega)).trans (h.block i hi hr)⟩

theorem grownBy_up {a b : World} {r : Option Nat} (h : Up a b) : a.grownBy b r := ⟨h.below.os, h.below.tape, h.below.output, h.size, fun _ hk _ => h.block hk⟩
theorem seq_new_at {k : IntKind} {w : World} {g : Nat} {x : Int} {t : TypeId} (hg : w.heap.size = g) : SeqAt k (w.alloc (.cells #[.int k x] t)) (.slice (some ⟨g, 0, none⟩) 1 1) [x] := by
  subst hg
  exact seq_new w x t
end Go.Sp
namespace Go.Proofs.YtdlcmpbpdbpanaaDoor
open Go.RowKit Go.Sp
set_option maxHeartbeats 2000000
set_option maxRecDepth 20000

theorem rbytes_any (n : Int) (w : World) (_h0 : 0 ≤ n) (_h1 : n ≤ 9223372036854775807) :
    Calls Tryd.prog 183 #[.int .i64 n] w fun e w' => ∃ v, e = .returned v ∧ OwnS 5 .u8 w' w.heap.size v (beL 8 n) ∧ Up w w' := by
  have HT := hid (beL_take n)
  have HL := hid (beL_length 8 n)
  obtain ⟨S, hS⟩ : ∃ S, beL 8 n = S := ⟨_, rfl⟩
  rw [hS] at HT HL
  rw [hS]
  clear hS
  obtain ⟨o, ho⟩ : ∃ o, w.heap.size = o := ⟨_, rfl⟩
  have HOo := hid ho
  clear ho
  have HLen : Hid (∀ k, k ≤ 8 → (S.take k).length = k) := hid (fun k hk => by rw [List.length_take, HL.out]; omega)
  go_enter Tryd.func183, Tryd.ntmps183
  go_wp2_with fail
  go_loopw [3, 4] (fun vp vi wr => ∃ (k : Nat) (p : Option Addr) (cp : Nat) (j : Int), k ≤ 8 ∧ vi = .int .i64 j ∧ vp = .slice p k cp ∧ -1 ≤ j ∧ j ≤ 7 ∧ Hid (j = 7 - (k : Int)) ∧ Hid (OwnS 5 .u8 wr o (.slice p k cp) (S.take k)) ∧ Hid (Up w wr)) (fun _ vi _ => (intOf vi + 1).toNat)
  case atStart => exact ⟨0, none, 0, 7, by omega, rfl, rfl, by omega, by omega, hid rfl, hid own_none, hid (Up.refl w)⟩
  case round =>
    obtain ⟨k, p, cp, j, hk, rfl, rfl, j0, j1, HJ, HO, HU⟩ := hrel
    by_cases hlt : k < 8
    · have hj := HJ.out
      have hj0 : 0 ≤ j := by omega
      have d0 : decide (j ≥ 0) = true := by simpa using hj0
      have hj8 : (0 : Int) ≤ 8 * j := by omega
      have HE : Hid ((8 * j).toNat = 56 - 8 * k) := hid (by omega)
      have HTk : Hid (S.take k ++ [n / 2 ^ (8 * j).toNat % 256] = S.take (k + 1)) := hid (by rw [HT.out k hlt, HE.out])
      have HLk := hid (HLen.out k (by omega))
      have HLk1 := hid (HLen.out (k + 1) (by omega))
      have hbs : o ≤ wr.heap.size := by have := HU.out.size; have := HOo.out; omega
      have HJ2 : Hid (j - 1 = 7 - ((k + 1 : Nat) : Int)) := hid (by omega)
      clear hj
      go_wp2_with (at_builtin; refine wp_app infoU8 Tryd.underlying31 (by omega) rfl _ _ rfl o rfl rfl (HO.out.up ((Up.refl wr).alloc _)) (seq_new _ _ _) (by have := HLk.out; simp; omega) (by simp; omega) ?_; intro v' w' hO' hg')
      have hU' := (HU.out.alloc _).own (HO.out.up ((Up.refl wr).alloc _)) hg' (by have := HOo.out; omega)
      rw [HTk.out] at hO'
      obtain ⟨p', k', rfl, _, _⟩ := hO'.shape
      rw [HLk1.out] at hO'
      rw [HLk1.out]
      have HO' := hid hO'
      have HU' := hid hU'
      clear hO' hU' hg' HO HU
      go_wp2_with fail
      go_roundw
      case rel => exact ⟨k + 1, p', k', j - 1, by omega, rfl, rfl, by omega, by omega, HJ2, HO', HU'⟩
      case measure => simp [intOf]; omega
    · obtain rfl : k = 8 := by omega
      have d0 : decide (j ≥ 0) = false := by have := HJ.out; simp; omega
      have HE : Hid (S.take 8 = S) := hid (List.take_of_length_le (by rw [HL.out]; omega))
      go_wp2
      go_ret
      exact ⟨_, rfl, by rw [HOo.out, ← HE.out]; exact HO.out, HU.out⟩

theorem rconst_any (g : Nat) (w : World) (hg : w.heap.size = g) :
    Calls Tryd.prog 155 #[] w fun e w' => e = .returned (.slice (some ⟨g, 0, none⟩) 64 64) ∧ Blk w' g 122 (arrK .u32 (fun i => shaK.getD i 0) 64) ∧ Up w w' := by
  subst hg
  go_enter Tryd.func155, Tryd.ntmps155
  go_wp2
  go_ret
  exact ⟨rfl, Blk.new rfl (by kernel_rfl), (Up.refl w).alloc _⟩

theorem rpadded_any (v : Value) (xs : List Int) (w : World) (hv : SeqAt .u8 w v xs) (hl : xs.length ≤ 1099511627000) :
    Calls Tryd.prog 156 #[v] w fun e w' => ∃ v', e = .returned v' ∧ OwnS 5 .u8 w' w.heap.size v' (padL xs) ∧ Up w w' := by
  have HV := hid hv
  obtain ⟨a0, cap, rfl, hcap1, hcap2⟩ := hv.shape
  obtain ⟨n, hn⟩ : ∃ n, xs.length = n := ⟨_, rfl⟩
  obtain ⟨Z, hZ⟩ : ∃ Z, padZ n = Z := ⟨_, rfl⟩
  have HP : Hid (padL xs = padTo xs Z ++ beL 8 (8 * n)) := hid (by rw [padL_eq, hn, hZ])
  have hZ2 : ((n + 1 + Z) % 64 = 56 ∧ Z ≤ 63) ∧ ∀ z, z < Z → (n + 1 + z) % 64 ≠ 56 := by
    rw [← hZ]
    unfold padZ
    refine ⟨⟨by omega, by omega⟩, fun z hz => by omega⟩
  have HZ := hid hZ2
  have HLt := hid (fun z => padTo_length xs z)
  rw [hn] at HLt
  have HStep := hid (padTo_step xs)
  have HZero : Hid (xs ++ [128] = padTo xs 0) := hid (by simp [padTo])
  have HXN := hid hn
  rw [hn] at hl hcap1 HV
  rw [hn]
  obtain ⟨o, ho⟩ : ∃ o, w.heap.size = o := ⟨_, rfl⟩
  have HOo := hid ho
  have HBy := hid (fun w' => rbytes_any (8 * n) w' (by omega) (by omega))
  clear hv hn hZ hZ2 ho
  go_enter Tryd.func156, Tryd.ntmps156
  go_wp2_with (first
    | (at_builtin; refine wp_app infoU8 Tryd.underlying31 (by omega) rfl _ _ rfl w.heap.size (v := .slice (some ⟨w.heap.size, 0, none⟩) 0 0) rfl rfl (own_empty (Blk.new rfl rfl) (Nat.le_refl _)) (HV.out.up ((Up.refl w).alloc _)) (by have := HXN.out; simp; omega) (by simp) ?_; intro v1 w1 hO1 hg1; have hU1 := Up.own ((Up.refl w).alloc _) (own_empty (e := 5) (k := .u8) (Blk.new rfl rfl) (Nat.le_refl _)) hg1 (Nat.le_refl _); have hs1 := hU1.size)
    | (at_builtin; refine wp_app infoU8 Tryd.underlying31 (by omega) rfl _ _ rfl w.heap.size rfl rfl (hO1.up ((Up.refl w1).alloc _)) (seq_new _ _ _) (by have := HXN.out; simp; omega) (by simp; omega) ?_; intro v2 w2 hO2 hg2; have hU2 := (hU1.alloc _).own (hO1.up ((Up.refl w1).alloc _)) hg2 (Nat.le_refl _)))
  rw [List.nil_append, HZero.out] at hO2
  obtain ⟨p2, k2, rfl, _, _⟩ := hO2.shape
  have HLt0 : (padTo xs 0).length = n + 1 := HLt.out 0
  rw [HLt0] at hO2
  rw [HLt0]
  rw [HOo.out] at hO2
  clear HLt0
  have HO2 := hid hO2
  have HU2 := hid hU2
  clear hO1 hO2 hU1 hU2 hg1 hg2 hs1
  go_wp2_with fail
  go_loopw [3] (fun vp wr => ∃ (z : Nat) (p : Option Addr) (c : Nat), z ≤ Z ∧ vp = .slice p (n + 1 + z) c ∧ Hid (OwnS 5 .u8 wr o (.slice p (n + 1 + z) c) (padTo xs z)) ∧ Hid (Up w wr)) (fun vp _ => n + 1 + Z - lenOf vp)
  case atStart => exact ⟨0, _, _, by omega, rfl, HO2, HU2⟩
  case round =>
    clear HO2 HU2
    obtain ⟨z, p, c, hz, rfl, HO, HU⟩ := hrel
    have hsz : o ≤ wr.heap.size := by have := HU.out.size; have := HOo.out; omega
    by_cases hlt : z < Z
    · have HL := hid (HLt.out z)
      have HS := hid (HStep.out z)
      have HS1 := hid (HLt.out (z + 1))
      have hne := HZ.out.2 z hlt
      have hm : n + 1 + z ≤ n + 70 := by have := HZ.out.1.2; omega
      obtain ⟨m, hme⟩ : ∃ m, n + 1 + z = m := ⟨_, rfl⟩
      have HM := hid hme
      rw [hme] at HO HL hne hm
      rw [hme]
      clear hme
      have d1 : ((m : Int) % 64 != 56) = true := by simp; omega
      go_wp2_with (at_builtin; refine wp_app infoU8 Tryd.underlying31 (by omega) rfl _ _ rfl o rfl rfl (HO.out.up ((Up.refl wr).alloc _)) (seq_new _ _ _) (by have := HL.out; simp; omega) (by simp; omega) ?_; intro v' w' hO' hg')
      have hU' := (HU.out.alloc _).own (HO.out.up ((Up.refl wr).alloc _)) hg' (by have := HOo.out; omega)
      rw [HS.out] at hO'
      obtain ⟨p', k', rfl, _, _⟩ := hO'.shape
      rw [HS1.out] at hO'
      rw [HS1.out]
      have HO' := hid hO'
      have HU' := hid hU'
      clear hO' hU' hg'
      go_wp2_with fail
      go_roundw
      case rel => exact ⟨z + 1, _, _, by omega, rfl, HO', HU'⟩
      case measure =>
        have := HM.out
        simp
        omega
    · have hzZ : z = Z := by omega
      have HzZ := hid hzZ
      have HL := hid (HLt.out z)
      have d1 : (((n + 1 + z : Nat) : Int) % 64 != 56) = false := by
        have := HZ.out.1.1
        rw [← hzZ] at this
        simp
        omega
      have hm : n + 1 + z ≤ n + 70 := by have := HZ.out.1.2; omega
      clear hzZ
      obtain ⟨m, hme⟩ : ∃ m, n + 1 + z = m := ⟨_, rfl⟩
      have HM := hid hme
      rw [hme] at HO HL hm d1
      rw [hme]
      clear hme hlt hz
      go_wp2_with fail
      refine (HBy.out _).mono ?_
      rintro e w4 ⟨v4, rfl, hO4, hU4⟩
      have hsz4 := hU4.size
      have HPP : Hid (padTo xs z ++ beL 8 (8 * (n : Int)) = padL xs) := hid (by rw [HzZ.out, HP.out])
      go_wp2_with (at_builtin; refine wp_app infoU8 Tryd.underlying31 (by omega) rfl _ _ rfl o rfl rfl (HO.out.up hU4) hO4.seq (by have := HL.out; simp [beL_length]; omega) (by omega) ?_; intro v5 w5 hO5 hg5)
      have hU5 := (HU.out.trans hU4).own (HO.out.up hU4) hg5 (by have := HOo.out; omega)
      rw [HPP.out] at hO5
      go_ret
      exact ⟨_, rfl, by rw [HOo.out]; exact hO5, hU5⟩
end Go.Proofs.YtdlcmpbpdbpanaaDoor
