/- A string among the arguments. The reference of layer 9: seed, number, joined. The reference of layer 9: Valid, New, Fork. Package draw: Fork. Plain laws of numbers below a power of 2, of 8 bytes, and of numbers other than 0. The reference of layer 9: Fork. -/
import Derived.Test.YtdlcmpbpdbpanaaDoorMB30
import Derived.Test.YtdlcmpbpdbpanaaDoorMB21
import Derived.Test.YtdlcmpbpdbpanaaDoorMB6
import Derived.Test.YtdlcmpbpdbpanaaDoorMB18
import Derived.Test.YtdlcmpbpdbpanaaDoorMB20
import Derived.Test.YtdlcmpbpdbpanaaDoorMB19
import Derived.Test.YtdlcmpbpdbpanaaDoorMB31
import Derived.Test.YtdlcmpbpdbpanaaDoorMB23
import Derived.ChangeMaps5
import Derived.Lib.AppendStr
namespace Go.Proofs.YtdlcmpbpdbpanaaDoor
open Go.ChangeShapes Go.WideShapes Go.ChangeAt Go.RowKit Go.Sp Go.Joins Go.Deep
set_option maxRecDepth 100000 in
theorem open_text {H : Type} {enc : TypeId × Value → H} {r : Reach} {b0 base : Nat} {spare : Nat → Bool} {held : Bool} {w : World} {v : Value} {d : DataW H} {p : List MemPlace}
    (hv : Value.okWide Tryd.prog w r b0 9 v) (h : DataW.Trod enc Tryd.prog w base spare held 9 v d p) : ∃ s : ByteArray, v = .string s := by
  obtain ⟨s, hs, _⟩ := Go.ChangeMaps.open_string Tryd.underlying9 hv h
  exact ⟨s, hs⟩
end Go.Proofs.YtdlcmpbpdbpanaaDoor
namespace Go.Proofs.YtdlcmpbpdbpanaaDoor
open Go.RowKit Go.Sp
set_option maxHeartbeats 4000000
set_option maxRecDepth 20000

theorem seed09_any (h : Nat → Int) (w : World) :
    Calls Tryd.prog 69 #[hashV h] w fun e w' => ∃ v', e = .returned v' ∧ OwnS 5 .u8 w' (w.heap.size + 1) v' (hList h) ∧ Up w w' := by
  have hget := fun i (hi : i < 32) => arrK_get (k := .u8) (f := h) hi
  have HEnd : Hid (joinTo h [] 32 = hList h) := hid rfl
  have HLn : Hid (∀ i, (joinTo h [] i).length = i) := hid (fun i => by rw [joinTo_length]; simp)
  have HSn := hid (joinTo_succ h [])
  unfold hashV
  generalize arrK .u8 h 32 = cs at *
  have HG := hid hget
  clear hget
  go_enter Tryd.func69, Tryd.ntmps69
  have HB3 := hid (Blk.new (w := w) (t := 23) (cs := cs) rfl rfl)
  have HU3 := hid ((Up.refl w).alloc (.cells cs 23))
  have HO3 : Hid (OwnS 5 .u8 (w.alloc (.cells cs 23)) (w.heap.size + 1) (.slice none 0 0) (joinTo h [] 0)) := hid own_none
  go_wp2_with fail
  obtain ⟨o, ho⟩ : ∃ o, w.heap.size = o := ⟨_, rfl⟩
  rw [ho] at HO3 HB3
  rw [ho]
  have HOo := hid ho
  clear ho
  go_loopw [3, 4] (fun vp vi wr => ∃ (i : Nat) (p : Option Addr) (c : Nat), i ≤ 32 ∧ vi = .int .i64 i ∧ vp = .slice p i c ∧ Hid (OwnS 5 .u8 wr (o + 1) (.slice p i c) (joinTo h [] i)) ∧ Hid (Blk wr o 23 cs) ∧ Hid (Up w wr)) (fun _ vi _ => 32 - (intOf vi).toNat)
  case atStart => exact ⟨0, _, _, by omega, rfl, rfl, HO3, HB3, HU3⟩
  case round =>
    clear HO3 HB3 HU3
    obtain ⟨i, p, c, hi, rfl, rfl, HO, HB, HU⟩ := hrel
    by_cases hlt : i < 32
    · have q1 := HB.out.val (HG.out i hlt)
      have HS := hid (HSn.out i)
      have HLi := hid (HLn.out i)
      have HLi1 := hid (HLn.out (i + 1))
      have hbs : o + 1 ≤ wr.heap.size := by have := HB.out.lt; omega
      generalize h i = x at *
      go_wp2_with (at_builtin; refine wp_app infoU8 Tryd.underlying31 (by omega) rfl _ _ rfl (o + 1) rfl rfl (HO.out.up ((Up.refl wr).alloc _)) (seq_new _ _ _) (by rw [HLi.out]; simp only [List.length_cons, List.length_nil]; omega) (by simp; omega) ?_; intro v' w' hO' hg')
      have hU' := (HU.out.alloc _).own (HO.out.up ((Up.refl wr).alloc _)) hg' (by have := HOo.out; omega)
      have HB' := hid ((HB.out.alloc _).below (below_own (HO.out.up ((Up.refl wr).alloc _)) hg' (by simp; omega)) (by omega))
      rw [HS.out] at hO'
      obtain ⟨p', k', rfl, _, _⟩ := hO'.shape
      rw [HLi1.out] at hO'
      rw [HLi1.out]
      have HO' := hid hO'
      have HU' := hid hU'
      clear hO' hU' hg' HO HU
      go_wp2_with fail
      go_roundw
      case rel => exact ⟨i + 1, p', k', by omega, by go_num, rfl, HO', HB', HU'⟩
      case measure => simp [intOf]; omega
    · have hi32 : i = 32 := by omega
      have HO2 := hid HO.out
      rw [hi32, HEnd.out] at HO2
      rw [hi32]
      clear hi32 HO hlt hi
      go_wp2_with fail
      go_ret
      exact ⟨_, rfl, by first | exact HO2.out | (rw [HOo.out]; exact HO2.out), HU.out⟩

theorem number09_any (n : Int) (w : World) :
    Calls Tryd.prog 70 #[.int .i64 n] w fun e w' => ∃ v', e = .returned v' ∧ OwnS 5 .u8 w' w.heap.size v' (beL 8 n) ∧ Up w w' := by
  have HLn : Hid (∀ i, i ≤ 8 → ((beL 8 n).take i).length = i) := hid (fun i hi => by rw [List.length_take, beL_length]; omega)
  have HSn := hid (beL_take n)
  have HEnd : Hid ((beL 8 n).take 8 = beL 8 n) := hid (by rw [List.take_of_length_le (by rw [beL_length]; omega)])
  go_enter Tryd.func70, Tryd.ntmps70
  have HU3 := hid (Up.refl w)
  have HO3 : Hid (OwnS 5 .u8 w w.heap.size (.slice none 0 0) ((beL 8 n).take 0)) := hid own_none
  obtain ⟨o, ho⟩ : ∃ o, w.heap.size = o := ⟨_, rfl⟩
  rw [ho] at HO3
  rw [ho]
  have HOo := hid ho
  clear ho
  go_wp2_with fail
  go_loopw [3, 4] (fun vp vi wr => ∃ (i : Nat) (p : Option Addr) (c : Nat), i ≤ 8 ∧ vi = .int .i64 i ∧ vp = .slice p i c ∧ Hid (OwnS 5 .u8 wr o (.slice p i c) ((beL 8 n).take i)) ∧ Hid (Up w wr)) (fun _ vi _ => 8 - (intOf vi).toNat)
  case atStart => exact ⟨0, _, _, by omega, rfl, rfl, HO3, HU3⟩
  case round =>
    clear HO3 HU3
    obtain ⟨i, p, c, hi, rfl, rfl, HO, HU⟩ := hrel
    by_cases hlt : i < 8
    · have HLi := hid (HLn.out i (by omega))
      have HLi1 := hid (HLn.out (i + 1) (by omega))
      have hbs : o ≤ wr.heap.size := by have := HU.out.size; have := HOo.out; omega
      obtain ⟨s, hs⟩ : ∃ s : Int, (56 - 8 * (i : Int)) = s := ⟨_, rfl⟩
      have hs0 : 0 ≤ s := by omega
      have hs1 : s ≤ 56 := by omega
      have HS : Hid ((beL 8 n).take i ++ [n / 2 ^ s.toNat % 256] = (beL 8 n).take (i + 1)) := hid (by rw [HSn.out i hlt, show 56 - 8 * i = s.toNat by omega])
      have w1 : IntKind.i64.wrap (8 * (i : Int)) = 8 * (i : Int) := by rw [IntKind.wrap_i64]; omega
      have w2 : IntKind.i64.wrap s = s := by rw [IntKind.wrap_i64]; omega
      go_wp2_with (at_builtin; refine wp_app infoU8 Tryd.underlying31 (by omega) rfl _ _ rfl o rfl rfl (HO.out.up ((Up.refl wr).alloc _)) (seq_new _ _ _) (by rw [HLi.out]; simp only [List.length_cons, List.length_nil]; omega) (by simp; omega) ?_; intro v' w' hO' hg')
      have hU' := (HU.out.alloc _).own (HO.out.up ((Up.refl wr).alloc _)) hg' (by have := HOo.out; omega)
      rw [HS.out] at hO'
      obtain ⟨p', k', rfl, _, _⟩ := hO'.shape
      rw [HLi1.out] at hO'
      rw [HLi1.out]
      have HO' := hid hO'
      have HU' := hid hU'
      clear hO' hU' hg' HO HU
      go_wp2_with fail
      go_roundw
      case rel => exact ⟨i + 1, p', k', by omega, by go_num, rfl, HO', HU'⟩
      case measure => simp [intOf]; omega
    · have hi8 : i = 8 := by omega
      have HO2 := hid HO.out
      rw [hi8, HEnd.out] at HO2
      rw [hi8]
      clear hi8 HO hlt hi
      go_wp2_with fail
      go_ret
      exact ⟨_, rfl, by first | exact HO2.out | (rw [HOo.out]; exact HO2.out), HU.out⟩

theorem joined09_any (va vb : Value) (xs ys : List Int) (w : World) (ha : SeqAt .u8 w va xs) (hb : SeqAt .u8 w vb ys) (hl1 : xs.length ≤ 20000) (hl2 : ys.length ≤ 20000) :
    Calls Tryd.prog 68 #[va, vb] w fun e w' => ∃ v', e = .returned v' ∧ OwnS 5 .u8 w' w.heap.size v' (xs ++ ys) ∧ Up w w' := by
  have HA := hid ha
  have HC := hid hb
  obtain ⟨n1, hn1⟩ : ∃ n, xs.length = n := ⟨_, rfl⟩
  obtain ⟨n2, hn2⟩ : ∃ n, ys.length = n := ⟨_, rfl⟩
  have HN1 := hid hn1
  have HN2 := hid hn2
  obtain ⟨a1, c1, rfl, _, _⟩ := ha.shape
  obtain ⟨a2, c2, rfl, _, _⟩ := hb.shape
  rw [hn1] at HA hl1
  rw [hn2] at HC hl2
  rw [hn1, hn2]
  have HLn : Hid (∀ i, i ≤ n1 → (xs.take i).length = i) := hid (fun i hi => by rw [List.length_take]; omega)
  have HLm : Hid (∀ i, i ≤ n2 → (xs ++ ys.take i).length = n1 + i) := hid (fun i hi => by rw [List.length_append, List.length_take]; omega)
  have HSn : Hid (∀ i, i < n1 → xs.take i ++ [xs.getD i 0] = xs.take (i + 1)) := hid (fun i hi => by rw [List.take_add_one, List.getElem?_eq_getElem (by omega), List.getD_eq_getElem?_getD, List.getElem?_eq_getElem (by omega)]; rfl)
  have HSm : Hid (∀ i, i < n2 → xs ++ ys.take i ++ [ys.getD i 0] = xs ++ ys.take (i + 1)) := hid (fun i hi => by rw [List.append_assoc, List.take_add_one, List.getElem?_eq_getElem (by omega), List.getD_eq_getElem?_getD, List.getElem?_eq_getElem (by omega)]; rfl)
  have HE1 : Hid (xs.take n1 = xs ++ ys.take 0) := hid (by rw [List.take_of_length_le (by omega)]; simp)
  have HE2 : Hid (xs ++ ys.take n2 = xs ++ ys) := hid (by rw [List.take_of_length_le (by omega)])
  clear ha hb hn1 hn2
  go_enter Tryd.func68, Tryd.ntmps68
  have HU3 := hid (Up.refl w)
  have HO3 : Hid (OwnS 5 .u8 w w.heap.size (.slice none 0 0) (xs.take 0)) := hid own_none
  obtain ⟨o, ho⟩ : ∃ o, w.heap.size = o := ⟨_, rfl⟩
  rw [ho] at HO3
  rw [ho]
  have HOo := hid ho
  clear ho
  go_wp2_with fail
  go_loopw [5, 6] (fun vp vi wr => ∃ (i : Nat) (p : Option Addr) (c : Nat), i ≤ n1 ∧ vi = .int .i64 i ∧ vp = .slice p i c ∧ Hid (OwnS 5 .u8 wr o (.slice p i c) (xs.take i)) ∧ Hid (Up w wr)) (fun _ vi _ => n1 - (intOf vi).toNat)
  case atStart => exact ⟨0, _, _, by omega, rfl, rfl, HO3, HU3⟩
  case round =>
    clear HO3 HU3
    obtain ⟨i, p, c, hi, rfl, rfl, HO, HU⟩ := hrel
    by_cases hlt : i < n1
    · obtain ⟨g1, f1, k1, e1, q1⟩ := (HA.out.up HU.out).cell (i := i) (by rw [HN1.out]; exact hlt)
      obtain ⟨rfl, -, rfl⟩ := Value.slice.inj e1
      clear e1
      have HLi := hid (HLn.out i (by omega))
      have HLi1 := hid (HLn.out (i + 1) (by omega))
      have hbs : o ≤ wr.heap.size := by have := HU.out.size; have := HOo.out; omega
      have HS := hid (HSn.out i hlt)
      generalize xs.getD i 0 = x at *
      go_wp2_with (at_builtin; refine wp_app infoU8 Tryd.underlying31 (by omega) rfl _ _ rfl o rfl rfl (HO.out.up ((Up.refl wr).alloc _)) (seq_new _ _ _) (by rw [HLi.out]; simp only [List.length_cons, List.length_nil]; omega) (by simp; omega) ?_; intro v' w' hO' hg')
      have hU' := (HU.out.alloc _).own (HO.out.up ((Up.refl wr).alloc _)) hg' (by have := HOo.out; omega)
      rw [HS.out] at hO'
      obtain ⟨p', k', rfl, _, _⟩ := hO'.shape
      rw [HLi1.out] at hO'
      rw [HLi1.out]
      have HO' := hid hO'
      have HU' := hid hU'
      clear hO' hU' hg' HO HU
      go_wp2_with fail
      go_roundw
      case rel => exact ⟨i + 1, p', k', by omega, by go_num, rfl, HO', HU'⟩
      case measure => simp [intOf]; omega
    · have hi8 : i = n1 := by omega
      have HO2 := hid HO.out
      rw [hi8, HE1.out] at HO2
      rw [hi8]
      clear hi8 HO hlt hi
      go_wp2_with fail
      go_loopw [5, 7] (fun vp vi wr => ∃ (i : Nat) (p : Option Addr) (c : Nat), i ≤ n2 ∧ vi = .int .i64 i ∧ vp = .slice p (n1 + i) c ∧ Hid (OwnS 5 .u8 wr o (.slice p (n1 + i) c) (xs ++ ys.take i)) ∧ Hid (Up w wr)) (fun _ vi _ => n2 - (intOf vi).toNat)
      case atStart => exact ⟨0, _, _, by omega, rfl, rfl, HO2, HU⟩
      case round =>
        clear HO2 HU
        obtain ⟨i, p, c, hi, rfl, rfl, HO, HU⟩ := hrel
        by_cases hlt : i < n2
        · obtain ⟨g1, f1, k1, e1, q1⟩ := (HC.out.up HU.out).cell (i := i) (by rw [HN2.out]; exact hlt)
          obtain ⟨rfl, -, rfl⟩ := Value.slice.inj e1
          clear e1
          have HLi := hid (HLm.out i (by omega))
          have HLi1 := hid (HLm.out (i + 1) (by omega))
          have hbs : o ≤ wr.heap.size := by have := HU.out.size; have := HOo.out; omega
          have HS := hid (HSm.out i hlt)
          generalize ys.getD i 0 = x at *
          obtain ⟨m, hm⟩ : ∃ m, n1 + i = m := ⟨_, rfl⟩
          have HM := hid hm
          rw [hm] at HO HLi
          rw [hm]
          have hmn : m ≤ 40000 := by omega
          clear hm
          go_wp2_with (at_builtin; refine wp_app infoU8 Tryd.underlying31 (by omega) rfl _ _ rfl o rfl rfl (HO.out.up ((Up.refl wr).alloc _)) (seq_new _ _ _) (by rw [HLi.out]; simp only [List.length_cons, List.length_nil]; omega) (by simp; omega) ?_; intro v' w' hO' hg')
          have hU' := (HU.out.alloc _).own (HO.out.up ((Up.refl wr).alloc _)) hg' (by have := HOo.out; omega)
          rw [HS.out] at hO'
          obtain ⟨p', k', rfl, _, _⟩ := hO'.shape
          rw [HLi1.out] at hO'
          rw [HLi1.out]
          have HO' := hid hO'
          have HU' := hid hU'
          clear hO' hU' hg' HO HU
          go_wp2_with fail
          go_roundw
          case rel => exact ⟨i + 1, p', k', by omega, by go_num, rfl, HO', HU'⟩
          case measure => simp [intOf]; omega
        · have hi8 : i = n2 := by omega
          have HO2 := hid HO.out
          rw [hi8, HE2.out] at HO2
          rw [hi8]
          clear hi8 HO hlt hi
          go_wp2_with fail
          go_ret
          exact ⟨_, rfl, by first | exact HO2.out | (rw [HOo.out]; exact HO2.out), HU.out⟩
end Go.Proofs.YtdlcmpbpdbpanaaDoor
namespace Go.Proofs.YtdlcmpbpdbpanaaDoor
open Go.RowKit Go.Sp
set_option maxHeartbeats 4000000
set_option maxRecDepth 20000

theorem r09Valid_any (h : Nat → Int) (c : Int) (w : World) : Calls Tryd.prog 20 #[drw h c] w fun e w' => e = .returned (.bool (dvB c)) ∧ Up w w' := by
  have HB : Hid (dvB c = (decide (0 ≤ c) && decide (c ≤ 1099511627776))) := hid rfl
  generalize dvB c = X at *
  have hq := drwA_ctr h c
  unfold drw
  generalize drwA h c = cs at *
  by_cases c1 : c ≥ 0
  case neg =>
    have d1 : decide (c ≥ 0) = false := by simpa using c1
    have hX : X = false := by rw [HB.out, show decide (0 ≤ c) = false from d1]; rfl
    subst hX
    clear c1
    go_enter Tryd.func20, Tryd.ntmps20
    go_wp2
    go_ret
    exact ⟨rfl, (Up.refl w).alloc _⟩
  have d1 : decide (c ≥ 0) = true := by simpa using c1
  have HB2 : Hid (X = decide (c ≤ 1099511627776)) := hid (by rw [HB.out, show decide (0 ≤ c) = true from d1]; rfl)
  clear HB
  go_enter Tryd.func20, Tryd.ntmps20
  go_wp2
  go_ret
  exact ⟨by rw [HB2.out]; rfl, (Up.refl w).alloc _⟩

def forkTag : ByteArray := { data := #[115, 112, 101, 99, 105, 101, 47, 102, 111, 114, 107] }
/-- The seed of a fork. -/
def frkH (h : Nat → Int) (c : Int) (s : ByteArray) : Nat → Int := tagB (txt forkTag) (posL h c ++ txt s)
/-- What Fork returns. -/
def frkV (h : Nat → Int) (c : Int) (s : ByteArray) : Value := if chkE c s.size 1 100 = 0 then .tuple #[drw (frkH h c s) 0, .int .i64 0] else .tuple #[drw zeroH 0, .int .i64 (chkE c s.size 1 100)]

theorem str_cells (s : ByteArray) : Lib.strCells s = (txt s).map (Value.int .u8) := by
  unfold Lib.strCells txt
  rw [List.map_map]
  rfl

theorem wp_apps {P : Program} {e t u : TypeId} (hI : (P.info? e).map (fun i => (i.zero, i.size, i.bytes)) = some (some (.int .u8 0), 1, 1)) (ht : P.underlying t = some (.slice e)) (hu : P.underlying u = some .string)
    {ops : Array Oper} {rest : List Oper} {o : Oper} {a : Act} {w : World} {Q : Exit → Act → World → Prop} (hgd : o.guard = none) (s x : Operand)
    (ho : o.op = .call { callee := .builtin .append, args := #[s, x], argTypes := #[t, u] })
    (base : Nat) {v : Value} {xs : List Int} {z : ByteArray} (hs : a.eval s = v) (hx : a.eval x = .string z) (hown : OwnS e .u8 w base v xs) (hroom : xs.length + z.size ≤ 17592186044416) (hbase : base ≤ w.heap.size)
    (h : ∀ v' w', OwnS e .u8 w' base v' (xs ++ txt z) → w.grownBy w' v.ownBlock → wpList P ops Q rest (a.put o.dst v') w') : wpList P ops Q (o :: rest) a w := by
  obtain ⟨i0, hi, hz0, hz1, hz2⟩ := info_parts hI
  refine Lib.wpList_append_own_string _ hgd s x t u ho base e i0 ht hu hi hz0 hz1 hz2 v xs.length (xs.map (Value.int .u8)) hs hown z hx (by unfold maxLen; omega) (by omega) hbase fun v' w' h1 h2 _ => h v' w' ?_ h2
  unfold OwnS
  rw [List.length_append, txt_length, List.map_append, ← str_cells]
  exact h1

theorem rNew_any (v : Value) (xs : List Int) (w : World) (hv : SeqAt .u8 w v xs) (hl : xs.length ≤ 20000) (hB : ∀ x ∈ xs, 0 ≤ x ∧ x ≤ 255) :
    Calls Tryd.prog 21 #[v] w fun e w' => e = .returned (drw (tagB (txt drawTag) xs) 0) ∧ Up w w' := by
  have HT := hid (fun w' (hU : Up w w') => rTagged_any drawTag v xs w' (by decide) (hv.up hU) (by omega) hB)
  generalize tagB (txt drawTag) xs = H at *
  clear hv hl hB
  go_enter Tryd.func21, Tryd.ntmps21
  have HZ := hid (Blk.new (w := w) (t := 25) (g := w.heap.size) rfl zero33)
  go_wp2_with fail
  refine (HT.out _ ((Up.refl w).alloc _)).mono ?_
  rintro e w1 ⟨rfl, hU1⟩
  have HZ1 := hid (HZ.out.up hU1)
  have HU1 := hid (((Up.refl w).alloc _).trans hU1)
  obtain ⟨o, ho⟩ : ∃ o, w.heap.size = o := ⟨_, rfl⟩
  have HOo := hid ho
  rw [ho] at HZ1
  rw [ho]
  clear hU1 HZ ho HT
  unfold hashV
  go_wp2_with (first
    | (refine wpList_buildTo rfl 25 _ rfl _ rfl (drwA H 0) (by kernel_rfl) ?_)
    | (refine wpList_store_rowTo rfl 25 _ _ rfl rfl o (drwA H 0) rfl rfl 25 (drwA zeroH 0) HZ1.out (sizeDrw _ _) (by rw [drwA_size, drwA_size]) (drwA_one _ _) ?_))
  refine bodyPost_ret (v := .agg (drwA H 0)) (results_cell_row rfl _ _ o 25 _ (0, 0) _ (by rfl) (HZ1.out.row _) Tryd.underlying25 rfl (sizeDrw _ _)) rfl ⟨rfl, HU1.out.setRow (by have := HOo.out; omega) _⟩

theorem Fork_any (h : Nat → Int) (c : Int) (s : ByteArray) (w : World) (hT : TabS w) (hB : Byt h) :
    Calls Tryd.prog 19 #[drw h c, .string s] w fun e w' => e = .returned (frkV h c s) ∧ Up w w' := by
  have HT := hid hT
  have M1 := hid (fun w' => check_draw_any h c s.size 1 100 w')
  obtain ⟨E, hE⟩ : ∃ E, chkE c s.size 1 100 = E := ⟨_, rfl⟩
  have hE1 : 1 ≤ s.size ∧ s.size ≤ 100 ∨ E ≠ 0 := by
    by_cases h0 : E = 0
    · have := (chk_iff.1 (hE.trans h0)).2
      exact .inl (by omega)
    · exact .inr h0
  have M2 := hid (fun w' => position_any h c w')
  have M3 := hid (fun w' (hU : Up w w') (v : Value) (hv : SeqAt .u8 w' v (posL h c ++ txt s)) (hs : s.size ≤ 100) => Tagged_any forkTag v _ w' (hT.up hU) (by decide) (by decide) hv (by rw [List.length_append, posL_length, txt_length]; omega) (fun x hx => by
    rcases List.mem_append.1 hx with hx | hx
    · exact posL_byt hB c x hx
    · exact txt_byt s x hx))
  have HV : Hid (frkV h c s = if E = 0 then .tuple #[drw (frkH h c s) 0, .int .i64 0] else .tuple #[drw zeroH 0, .int .i64 E]) := hid (by rw [frkV, hE])
  rw [hE] at M1
  obtain ⟨H, hH⟩ : ∃ H, frkH h c s = H := ⟨_, rfl⟩
  rw [hH] at HV
  rw [show tagB (txt forkTag) (posL h c ++ txt s) = H from hH] at M3
  have HPl := hid (posL_length h c)
  have HSc := hid (str_cells s)
  have HTl := hid (txt_length s)
  obtain ⟨V, hV⟩ : ∃ V, frkV h c s = V := ⟨_, rfl⟩
  rw [hV] at HV ⊢
  unfold drw at M1 M2 HV ⊢
  have HSz := hid (sizeDrw h c)
  generalize drwA h c = D0 at *
  clear hT hB hE hH hV
  go_enter Tryd.func19, Tryd.ntmps19
  obtain ⟨o, ho⟩ : ∃ o, w.heap.size = o := ⟨_, rfl⟩
  have HO := hid ho
  have HD0 := hid ((Blk.new (w := w) (t := 25) (g := o) (cs := D0) ho rfl).alloc (.cells #[.int .u8 0, .int .u8 0, .int .u8 0, .int .u8 0, .int .u8 0, .int .u8 0, .int .u8 0, .int .u8 0, .int .u8 0, .int .u8 0, .int .u8 0, .int .u8 0, .int .u8 0, .int .u8 0, .int .u8 0, .int .u8 0, .int .u8 0, .int .u8 0, .int .u8 0, .int .u8 0, .int .u8 0, .int .u8 0, .int .u8 0, .int .u8 0, .int .u8 0, .int .u8 0, .int .u8 0, .int .u8 0, .int .u8 0, .int .u8 0, .int .u8 0, .int .u8 0, .int .i64 0] 25))
  have HZ0 := hid (Blk.new (w := w.alloc (.cells D0 25)) (t := 25) (g := o + 1) (by simp [ho]) zero33)
  have HU0 := hid (((Up.refl w).alloc (.cells D0 25)).alloc (.cells #[.int .u8 0, .int .u8 0, .int .u8 0, .int .u8 0, .int .u8 0, .int .u8 0, .int .u8 0, .int .u8 0, .int .u8 0, .int .u8 0, .int .u8 0, .int .u8 0, .int .u8 0, .int .u8 0, .int .u8 0, .int .u8 0, .int .u8 0, .int .u8 0, .int .u8 0, .int .u8 0, .int .u8 0, .int .u8 0, .int .u8 0, .int .u8 0, .int .u8 0, .int .u8 0, .int .u8 0, .int .u8 0, .int .u8 0, .int .u8 0, .int .u8 0, .int .u8 0, .int .i64 0] 25))
  clear ho
  go_wp2_with (refine wpList_load_row rfl 25 _ rfl w.heap.size rfl 25 D0 (0, 0) _ (HO.out.symm ▸ HD0.out) Tryd.underlying25 rfl HSz.out ?_)
  refine (M1.out _).mono ?_
  rintro e w1 ⟨rfl, hU1⟩
  have HD1 := hid (HD0.out.up hU1)
  have HZ1 := hid (HZ0.out.up hU1)
  have HU1 := hid (HU0.out.trans hU1)
  rw [HO.out]
  clear hU1 HD0 HZ0 HU0
  by_cases h0 : E = 0
  case neg =>
    have d : (E != 0) = true := by simpa using h0
    have HVr : Hid (V = .tuple #[.agg (drwA zeroH 0), .int .i64 E]) := hid (by rw [HV.out, if_neg h0])
    clear h0 hE1 HV
    go_wp2_with (refine wpList_store_rowTo rfl 25 _ _ rfl rfl (o + 1) (drwA zeroH 0) ?_ ?_ 25 (drwA zeroH 0) ?_ ?_ ?_ ?_ ?_)
    · rfl
    · exact (congrArg Value.agg zero33)
    · exact HZ1.out
    · exact sizeDrw _ _
    · rfl
    · exact drwA_one _ _
    refine bodyPost_ret (v := .tuple #[.agg (drwA zeroH 0), .int .i64 E]) (results_row_tmp Tryd.results19 _ _ (o + 1) 25 _ (0, 0) _ (by rfl) (HZ1.out.row _) Tryd.underlying25 rfl (sizeDrw _ _)) rfl ⟨by rw [HVr.out], HU1.out.setRow (by have := HO.out; omega) _⟩
  have HVr : Hid (V = .tuple #[.agg (drwA H 0), .int .i64 0]) := hid (by rw [HV.out, if_pos h0])
  have HSs : Hid (s.size ≤ 100) := hid (by omega)
  subst h0
  clear hE1 HV
  go_wp2_with (refine wpList_load_row rfl 25 _ rfl o rfl 25 D0 (0, 0) _ HD1.out Tryd.underlying25 rfl HSz.out ?_)
  have hoz := HZ1.out.lt
  refine (M2.out _).mono ?_
  rintro e w2 ⟨v2, rfl, hO2, hU2⟩
  obtain ⟨b, hb⟩ : ∃ b, w1.heap.size = b := ⟨_, rfl⟩
  rw [hb] at hO2 hoz
  have hbb : b ≤ w2.heap.size := by have := hU2.size; omega
  have hwb : w.heap.size ≤ b := by have := HU1.out.size; omega
  have HZ2 := hid (HZ1.out.up hU2)
  have HU2 := hid (HU1.out.trans hU2)
  clear hU2 hb HZ1 HU1 HD1
  have HO2 := hid hO2
  obtain ⟨p, cp, rfl, _, _⟩ := hO2.shape
  clear hO2
  go_wp2_with (at_builtin; refine wp_apps infoU8 Tryd.underlying31 Tryd.underlying9 rfl _ _ rfl b rfl rfl HO2.out (by rw [HPl.out]; have := HSs.out; omega) hbb ?_; intro v3 w3 hO3 hg3)
  have hU3 := HU2.out.own HO2.out hg3 hwb
  have hZ3 := HZ2.out.below (below_own HO2.out hg3 hbb) hoz
  have HO3 := hid hO3.seq
  have HZ3 := hid hZ3
  have HU3 := hid hU3
  obtain ⟨p3, c3, rfl, _, _⟩ := hO3.shape
  clear hO3 hg3 hU3 hZ3 HO2 HZ2 HU2
  go_wp2_with fail
  refine (M3.out _ HU3.out _ HO3.out HSs.out).mono ?_
  rintro e w4 ⟨rfl, hU4⟩
  have HZ4 := hid (HZ3.out.up hU4)
  have HU4 := hid (HU3.out.trans hU4)
  clear hU4 HZ3 HU3
  unfold hashV
  go_wp2_with (first
    | (refine wpList_store_rowTo rfl 23 _ _ rfl rfl _ _ rfl rfl 23 _ (heap_alloc_new _ _) (by rw [arrK_size]; kernel_rfl) (by rw [arrK_size]; rfl) arrK_one ?_; rw [World.setRow_alloc_new])
    | (refine wpList_load_row rfl 23 _ rfl w4.heap.size rfl 23 (arrK .u8 H 32) (0, 0) _ (Blk.new rfl rfl) Tryd.underlying23 rfl (by rw [arrK_size]; kernel_rfl) ?_)
    | (refine wpList_buildTo rfl 25 _ rfl _ rfl (drwA H 0) (by kernel_rfl) ?_)
    | (refine wpList_store_rowTo rfl 25 _ _ rfl rfl (o + 1) (drwA H 0) rfl rfl 25 (drwA zeroH 0) (HZ4.out.alloc _) (sizeDrw _ _) (by rw [drwA_size, drwA_size]) (drwA_one _ _) ?_))
  refine bodyPost_ret (v := .tuple #[.agg (drwA H 0), .int .i64 0]) (results_row_tmp Tryd.results19 _ _ (o + 1) 25 _ (0, 0) _ (by rfl) ((HZ4.out.alloc _).row _) Tryd.underlying25 rfl (sizeDrw _ _)) rfl ⟨by rw [HVr.out], (HU4.out.alloc _).setRow (by have := HO.out; omega) _⟩
end Go.Proofs.YtdlcmpbpdbpanaaDoor
namespace Go.Proofs.YtdlcmpbpdbpanaaDoor
open Go.RowKit Go.Sp
theorem pow60 {k : Nat} (hk : k ≤ 60) : (1 : Int) ≤ 2 ^ k ∧ (2 : Int) ^ k ≤ 1152921504606846976 := by
  have h1 : (0 : Int) < 2 ^ k := Int.pow_pos (by decide)
  have h2 : (2 : Nat) ^ k ≤ 2 ^ 60 := Nat.pow_le_pow_right (by decide) hk
  have h3 : ((2 ^ k : Nat) : Int) = (2 : Int) ^ k := by simp
  omega
theorem nxt_pow {h : Nat → Int} {c : Int} {k : Nat} (h0 : 0 ≤ c) (h1 : c ≤ 549755813888) (hk : k ≤ 60) : nxtV h c (2 ^ k) = .tuple #[drw h (c + 1), .int .i64 (firK (shaB (posL h c)) 8 % 2 ^ k), .int .i64 0] := by
  obtain ⟨p0, p1⟩ := pow60 hk
  rw [nxtV, if_pos (chk_iff.2 ⟨⟨h0, by omega⟩, p0, by omega⟩), numT_pow (by omega) (by omega)]
  rfl
theorem byt_eight {h : Nat → Int} {c : Int} (h0 : 0 ≤ c) (h1 : c ≤ 549755813888) : bytE c 8 = 0 ∧ bytD h c 8 = drw h (c + 1) ∧ bytL h c 8 = (hList (shaB (posL h c))).take 8 := by
  have hn : needB 8 = 1 := by decide
  have he : bytE c 8 = 0 := by
    rw [bytE, if_pos (chk_iff.2 ⟨⟨h0, by omega⟩, by omega, by omega⟩), hn, if_pos (by omega)]
  refine ⟨he, by rw [bytD, if_pos he, hn], ?_⟩
  rw [bytL, if_pos he, hn]
  show (([] : List Int) ++ hList (shaB (posL h (c + (0 : Nat))))).take 8 = _
  simp
theorem nzn_low {h : Nat → Int} {c q : Int} (h0 : 0 ≤ c) (h1 : c ≤ 549755813888) : (∃ E, nznV h c q = .tuple #[drw zeroH 0, .int .i64 0, .int .i64 E] ∧ E ≠ 0 ∧ (q < 2 ∨ 2305843009213693952 ≤ q)) ∨ ∃ C Z, nznV h c q = .tuple #[drw h C, .int .i64 Z, .int .i64 0] ∧ c < C ∧ 1 ≤ Z ∧ Z < q := by
  by_cases hk : chkE c q 2 2305843009213693951 = 0
  · obtain ⟨_, q2, q3⟩ := chk_iff.1 hk
    obtain ⟨f0, ⟨z1, z2⟩, lt⟩ := nzT_low (h := h) (q := q) q2 256 c h0 (by omega)
    refine .inr ⟨(nzT h q 256 c).2.1, (nzT h q 256 c).1, ?_, lt (by omega), z1, z2⟩
    rw [nznV, if_pos hk, f0]
    rfl
  · refine .inl ⟨_, by rw [nznV, if_neg hk], hk, ?_⟩
    by_cases h2 : 2 ≤ q ∧ q ≤ 2305843009213693951
    · exact absurd (chk_iff.2 ⟨⟨h0, by omega⟩, h2⟩) hk
    · omega
/-- The shift of 1, both ways. -/
theorem shl_i {k : Nat} (hk : k ≤ 60) : IntKind.i64.wrap (2 ^ k) = 2 ^ k := by
  obtain ⟨p0, p1⟩ := pow60 hk
  rw [IntKind.wrap_i64]
  omega
theorem shl_u {k : Nat} (hk : k ≤ 60) : IntKind.u64.wrap (2 ^ k) = 2 ^ k := by
  obtain ⟨p0, p1⟩ := pow60 hk
  rw [IntKind.wrap_u64]
  omega
/-- A load in a row, at an operation with a guard that says yes. -/
theorem wpList_load_midG {P : Program} {ops : Array Oper} {rest : List Oper} {o : Oper} {a : Act} {w : World} {Q : Exit → Act → World → Prop} (hw : Region.wanted o (yielded ops a.tmps) = true) (ty : TypeId) (x : Operand) (ho : o.op = .load ty x)
    (b i : Nat) (hx : a.eval x = .pointer (some ⟨b, i, none⟩)) (cs : List Value) (d : TypeDesc) (hc : w.rangeAt b i cs)
    (hu : P.underlying ty = some d) (hd : d.isRow = true) (hi : (P.info? ty).map (·.size) = some cs.length)
    (h : wpList P ops Q rest (a.put o.dst (.agg cs.toArray)) w) : wpList P ops Q (o :: rest) a w :=
  wpList_step fun K hK => by
    rw [if_pos hw]
    exact wp_load_mid ty x ho b i hx cs d hc hu hd hi (hK _ _ h)
theorem drw_hash {w : World} {b : Nat} {t : TypeId} {h : Nat → Int} {c : Int} (hb : Blk w b t (drwA h c)) : w.rangeAt b 0 (arrK .u8 h 32).toList := fun j v hv => by
  rw [Nat.zero_add, hb.read]
  have hj : j < 32 := by
    have := (List.getElem?_eq_some_iff.1 hv).1
    rw [Array.length_toList, arrK_size] at this
    exact this
  rw [drwA, Array.getElem?_push, if_neg (by rw [arrK_size]; omega), ← hv, Array.getElem?_toList]
theorem sizeHs (h : Nat → Int) : (Tryd.prog.info? 23).map (·.size) = some (arrK .u8 h 32).toList.length := by rw [Array.length_toList, arrK_size]; kernel_rfl
end Go.Proofs.YtdlcmpbpdbpanaaDoor
namespace Go.Proofs.YtdlcmpbpdbpanaaDoor
open Go.RowKit Go.Sp
set_option maxHeartbeats 4000000
set_option maxRecDepth 20000

theorem rFork_any (h : Nat → Int) (c : Int) (s : ByteArray) (w : World) (hs : s.size ≤ 300) (hB : Byt h) :
    Calls Tryd.prog 22 #[drw h c, .string s] w fun e w' => e = .returned (drw (frkH h c s) 0) ∧ Up w w' := by
  have M1 := hid (fun w' => seed09_any h w')
  have M2 := hid (fun w' => number09_any c w')
  have M3 := hid (fun w' (va vb : Value) (ha : SeqAt .u8 w' va (hList h)) (hb : SeqAt .u8 w' vb (beL 8 c)) => joined09_any va vb _ _ w' ha hb (by rw [hList_length]; omega) (by rw [beL_length]; omega))
  have M4 := hid (fun w' (va vb : Value) (ha : SeqAt .u8 w' va (hList h ++ beL 8 c)) (hb : SeqAt .u8 w' vb (txt s)) => joined09_any va vb _ _ w' ha hb (by rw [List.length_append, hList_length, beL_length]; omega) (by rw [txt_length]; omega))
  have M5 := hid (fun w' (v : Value) (hv : SeqAt .u8 w' v (posL h c ++ txt s)) => rTagged_any forkTag v _ w' (by decide) hv (by rw [List.length_append, posL_length, txt_length]; omega) (fun x hx => by
    rcases List.mem_append.1 hx with hx | hx
    · exact posL_byt hB c x hx
    · exact txt_byt s x hx))
  have HE : Hid (∀ w' v, SeqAt .u8 w' v (hList h ++ beL 8 c ++ txt s) → SeqAt .u8 w' v (posL h c ++ txt s)) := hid (fun _ _ h => h)
  obtain ⟨H, hH⟩ : ∃ H, frkH h c s = H := ⟨_, rfl⟩
  rw [show tagB (txt forkTag) (posL h c ++ txt s) = H from hH] at M5
  rw [hH]
  have HC := hid (drwA_ctr h c)
  have HHs := hid (fun (w : World) (b : Nat) (t : TypeId) (hb : Blk w b t (drwA h c)) => drw_hash hb)
  have HHz := hid (sizeHs h)
  unfold hashV at M1
  unfold drw
  generalize posL h c ++ txt s = PT at *
  generalize hList h = A1 at *
  generalize beL 8 c = A2 at *
  generalize arrK .u8 h 32 = hcs at *
  generalize drwA h c = D0 at *
  have hcv := fun w' => run_bytes_of_string (P := Tryd.prog) w' 9 31 5 s Tryd.underlying9 Tryd.underlying31 Tryd.underlying5
  have HCv := hid hcv
  clear hB hH hcv
  go_enter Tryd.func22, Tryd.ntmps22
  go_wp2_with fail
  obtain ⟨o, ho⟩ : ∃ o, w.heap.size = o := ⟨_, rfl⟩
  have HO := hid ho
  have HD0 := hid ((Blk.new (w := w) (t := 25) (g := o) (cs := D0) ho rfl).alloc (.cells #[.int .u8 0, .int .u8 0, .int .u8 0, .int .u8 0, .int .u8 0, .int .u8 0, .int .u8 0, .int .u8 0, .int .u8 0, .int .u8 0, .int .u8 0, .int .u8 0, .int .u8 0, .int .u8 0, .int .u8 0, .int .u8 0, .int .u8 0, .int .u8 0, .int .u8 0, .int .u8 0, .int .u8 0, .int .u8 0, .int .u8 0, .int .u8 0, .int .u8 0, .int .u8 0, .int .u8 0, .int .u8 0, .int .u8 0, .int .u8 0, .int .u8 0, .int .u8 0, .int .i64 0] 25))
  have HZ0 := hid (Blk.new (w := w.alloc (.cells D0 25)) (t := 25) (g := o + 1) (by simp [ho]) zero33)
  have HU0 := hid (((Up.refl w).alloc (.cells D0 25)).alloc (.cells #[.int .u8 0, .int .u8 0, .int .u8 0, .int .u8 0, .int .u8 0, .int .u8 0, .int .u8 0, .int .u8 0, .int .u8 0, .int .u8 0, .int .u8 0, .int .u8 0, .int .u8 0, .int .u8 0, .int .u8 0, .int .u8 0, .int .u8 0, .int .u8 0, .int .u8 0, .int .u8 0, .int .u8 0, .int .u8 0, .int .u8 0, .int .u8 0, .int .u8 0, .int .u8 0, .int .u8 0, .int .u8 0, .int .u8 0, .int .u8 0, .int .u8 0, .int .u8 0, .int .i64 0] 25))
  rw [ho]
  clear ho
  generalize (w.alloc (.cells D0 25)).alloc (.cells #[.int .u8 0, .int .u8 0, .int .u8 0, .int .u8 0, .int .u8 0, .int .u8 0, .int .u8 0, .int .u8 0, .int .u8 0, .int .u8 0, .int .u8 0, .int .u8 0, .int .u8 0, .int .u8 0, .int .u8 0, .int .u8 0, .int .u8 0, .int .u8 0, .int .u8 0, .int .u8 0, .int .u8 0, .int .u8 0, .int .u8 0, .int .u8 0, .int .u8 0, .int .u8 0, .int .u8 0, .int .u8 0, .int .u8 0, .int .u8 0, .int .u8 0, .int .u8 0, .int .i64 0] 25) = w0 at *
  go_cut [5] from 6 (fun v w' => Hid (SeqAt .u8 w' v PT) ∧ Hid (Up w w') ∧ Hid (Blk w' (o + 1) 25 (drwA zeroH 0)))
  case first =>
    refine region_E (fun w' => Blk w' o 25 D0) 11 (by kernel_rfl) (HD0.out.up (Up.refl _).drew) fun hS => ?_
    have hU := HU0.out.drew
    have hZ := HZ0.out.up (Up.refl w0).drew
    generalize w0.drew = u0 at *
    refine anyE_takeA (i := 0) (v := ?_) 6 rfl rfl (by kernel_rfl) (by decide) (fun _ _ _ h => h) (by kernel_rfl) (by kernel_rfl) (.inl ⟨by rfl, fun u hu => ?_⟩) hS ?_
    rotate_left
    · (go_simp; first | done | with_reducible rfl)
    try simp only [Act.put, List.setIfInBounds_toArray, List.set_cons_zero, List.set_cons_succ]
    refine anyE_takeA (i := 1) (v := .agg hcs.toList.toArray) 7 rfl rfl (by kernel_rfl) (by decide) (fun _ _ _ h => h) (by kernel_rfl) (by kernel_rfl) (yieldsIf_load_mid (by rfl) 23 _ rfl o 0 rfl hcs.toList _ (fun u hu => HHs.out u o _ hu) Tryd.underlying23 rfl HHz.out) hS ?_
    rw [Array.toArray_toList]
    try simp only [Act.put, List.setIfInBounds_toArray, List.set_cons_zero, List.set_cons_succ]
    refine anyE_takeA (i := 3) (v := ?_) 9 rfl rfl (by kernel_rfl) (by decide) (fun _ _ _ h => h) (by kernel_rfl) (by kernel_rfl) (.inl ⟨by rfl, fun u hu => ?_⟩) hS ?_
    rotate_left
    · (go_simp; first | done | with_reducible rfl)
    try simp only [Act.put, List.setIfInBounds_toArray, List.set_cons_zero, List.set_cons_succ]
    refine anyE_takeA (i := 4) (v := ?_) 10 rfl rfl (by kernel_rfl) (by decide) (fun _ _ _ h => h) (by kernel_rfl) (by kernel_rfl) (.inl ⟨by rfl, fun u hu => ?_⟩) hS ?_
    rotate_left
    · (have z := hu.val HC.out; go_simp; first | done | with_reducible rfl)
    try simp only [Act.put, List.setIfInBounds_toArray, List.set_cons_zero, List.set_cons_succ]
    refine anyE_takeA (i := 7) (v := ?_) 13 rfl rfl (by kernel_rfl) (by decide) (fun _ _ _ h => h) (by kernel_rfl) (by kernel_rfl) (.inl ⟨by rfl, fun u hu => ?_⟩) hS ?_
    rotate_left
    · (go_simp; first | done | with_reducible rfl)
    try simp only [Act.put, List.setIfInBounds_toArray, List.set_cons_zero, List.set_cons_succ]
    refine anyE_two 2 8 (by kernel_rfl) ⟨_, rfl, rfl, fun K hK => ?_⟩ ⟨_, rfl, rfl, fun K hK => ?_⟩
    · go_simp
      refine (M1.out _).mono ?_
      rintro e u1 ⟨x2, rfl, hO, hup⟩
      dsimp only
      have hA := hO.seq
      have hS := hS.up hup
      have hU := hU.trans hup
      have hZ := hZ.up hup
      refine hK.out _ _ (.inr hS) ?_
      clear hK hO hup
      try simp only [Act.put, List.setIfInBounds_toArray, List.set_cons_zero, List.set_cons_succ]
      refine anyE_two 5 8 (by kernel_rfl) ⟨_, rfl, rfl, fun K hK => ?_⟩ ⟨_, rfl, rfl, fun K hK => ?_⟩
      · go_simp
        refine (M2.out _).mono ?_
        rintro e u2 ⟨x5, rfl, hO, hup⟩
        dsimp only
        have hN := hO.seq
        have hS := hS.up hup
        have hU := hU.trans hup
        have hZ := hZ.up hup
        have hA := hA.up hup
        refine hK.out _ _ (.inr hS) ?_
        clear hK hO hup
        try simp only [Act.put, List.setIfInBounds_toArray, List.set_cons_zero, List.set_cons_succ]
        refine anyE_two 6 8 (by kernel_rfl) ⟨_, rfl, rfl, fun K hK => ?_⟩ ⟨_, rfl, rfl, fun K hK => ?_⟩
        · go_simp
          refine (M3.out _ _ _ hA hN).mono ?_
          rintro e u3 ⟨x6, rfl, hO, hup⟩
          dsimp only
          have hJ := hO.seq
          have hS := hS.up hup
          have hU := hU.trans hup
          have hZ := hZ.up hup
          have hA := hA.up hup
          have hN := hN.up hup
          refine hK.out _ _ (.inr hS) ?_
          clear hK hO hup
          try simp only [Act.put, List.setIfInBounds_toArray, List.set_cons_zero, List.set_cons_succ]
          refine anyE_one (i := 8) rfl (by kernel_rfl) rfl (fun K hK => ?_)
          have hcv := HCv.out
          go_simp
          clear hcv
          have hT := seq_text_at (w := u3) s (grownCap u3 s.size 0 5) 5 ((bytesRow s (grownCap u3 s.size 0 5)).size, (bytesRow s (grownCap u3 s.size 0 5)).size + 1) rfl cap_ge (cap_le (by omega))
          have hup := ((Up.refl u3).alloc (.cells (bytesRow s (grownCap u3 s.size 0 5)) 5 ((bytesRow s (grownCap u3 s.size 0 5)).size, (bytesRow s (grownCap u3 s.size 0 5)).size + 1))).drew
          generalize Value.slice (some ⟨u3.heap.size, 0, none⟩) s.size (grownCap u3 s.size 0 5) = x8 at *
          generalize (World.alloc u3 _).drew = u4 at *
          have hS := hS.up hup
          have hU := hU.trans hup
          have hZ := hZ.up hup
          have hA := hA.up hup
          have hN := hN.up hup
          have hJ := hJ.up hup
          refine hK.out _ _ (.inr hS) ?_
          clear hK hup
          try simp only [Act.put, List.setIfInBounds_toArray, List.set_cons_zero, List.set_cons_succ]
          refine anyE_one (i := 9) rfl (by kernel_rfl) rfl (fun K hK => ?_)
          go_simp
          refine (M4.out _ _ _ hJ hT).mono ?_
          rintro e u5 ⟨x9, rfl, hO, hup⟩
          dsimp only
          have hF := hO.seq
          have hS := hS.up hup
          have hU := hU.trans hup
          have hZ := hZ.up hup
          have hA := hA.up hup
          have hN := hN.up hup
          have hJ := hJ.up hup
          have hT := hT.up hup
          refine hK.out _ _ (.inr hS) ?_
          clear hK hO hup
          try simp only [Act.put, List.setIfInBounds_toArray, List.set_cons_zero, List.set_cons_succ]
          refine anyE_takeA (i := 10) (v := ?_) 5 rfl rfl (by kernel_rfl) (by decide) (fun _ _ _ h => h) (by kernel_rfl) (by kernel_rfl) (.inl ⟨by rfl, fun u hu => ?_⟩) hS ?_
          rotate_left
          · (go_simp; first | done | with_reducible rfl)
          try simp only [Act.put, List.setIfInBounds_toArray, List.set_cons_zero, List.set_cons_succ]
          refine anyE_done (by kernel_rfl) ?_ _
          clear hS
          go_wp2_with fail
          go_meet
          exact ⟨hid (HE.out _ _ hF), hid hU, hid hZ⟩
        · have hcv := HCv.out
          go_simp
          clear hcv
          have hT := seq_text_at (w := u2) s (grownCap u2 s.size 0 5) 5 ((bytesRow s (grownCap u2 s.size 0 5)).size, (bytesRow s (grownCap u2 s.size 0 5)).size + 1) rfl cap_ge (cap_le (by omega))
          have hup := ((Up.refl u2).alloc (.cells (bytesRow s (grownCap u2 s.size 0 5)) 5 ((bytesRow s (grownCap u2 s.size 0 5)).size, (bytesRow s (grownCap u2 s.size 0 5)).size + 1))).drew
          generalize Value.slice (some ⟨u2.heap.size, 0, none⟩) s.size (grownCap u2 s.size 0 5) = x8 at *
          generalize (World.alloc u2 _).drew = u3 at *
          have hS := hS.up hup
          have hU := hU.trans hup
          have hZ := hZ.up hup
          have hA := hA.up hup
          have hN := hN.up hup
          refine hK.out _ _ (.inr hS) ?_
          clear hK hup
          try simp only [Act.put, List.setIfInBounds_toArray, List.set_cons_zero, List.set_cons_succ]
          refine anyE_one (i := 6) rfl (by kernel_rfl) rfl (fun K hK => ?_)
          go_simp
          refine (M3.out _ _ _ hA hN).mono ?_
          rintro e u4 ⟨x6, rfl, hO, hup⟩
          dsimp only
          have hJ := hO.seq
          have hS := hS.up hup
          have hU := hU.trans hup
          have hZ := hZ.up hup
          have hA := hA.up hup
          have hN := hN.up hup
          have hT := hT.up hup
          refine hK.out _ _ (.inr hS) ?_
          clear hK hO hup
          try simp only [Act.put, List.setIfInBounds_toArray, List.set_cons_zero, List.set_cons_succ]
          refine anyE_one (i := 9) rfl (by kernel_rfl) rfl (fun K hK => ?_)
          go_simp
          refine (M4.out _ _ _ hJ hT).mono ?_
          rintro e u5 ⟨x9, rfl, hO, hup⟩
          dsimp only
          have hF := hO.seq
          have hS := hS.up hup
          have hU := hU.trans hup
          have hZ := hZ.up hup
          have hA := hA.up hup
          have hN := hN.up hup
          have hJ := hJ.up hup
          have hT := hT.up hup
          refine hK.out _ _ (.inr hS) ?_
          clear hK hO hup
          try simp only [Act.put, List.setIfInBounds_toArray, List.set_cons_zero, List.set_cons_succ]
          refine anyE_takeA (i := 10) (v := ?_) 5 rfl rfl (by kernel_rfl) (by decide) (fun _ _ _ h => h) (by kernel_rfl) (by kernel_rfl) (.inl ⟨by rfl, fun u hu => ?_⟩) hS ?_
          rotate_left
          · (go_simp; first | done | with_reducible rfl)
          try simp only [Act.put, List.setIfInBounds_toArray, List.set_cons_zero, List.set_cons_succ]
          refine anyE_done (by kernel_rfl) ?_ _
          clear hS
          go_wp2_with fail
          go_meet
          exact ⟨hid (HE.out _ _ hF), hid hU, hid hZ⟩
      · have hcv := HCv.out
        go_simp
        clear hcv
        have hT := seq_text_at (w := u1) s (grownCap u1 s.size 0 5) 5 ((bytesRow s (grownCap u1 s.size 0 5)).size, (bytesRow s (grownCap u1 s.size 0 5)).size + 1) rfl cap_ge (cap_le (by omega))
        have hup := ((Up.refl u1).alloc (.cells (bytesRow s (grownCap u1 s.size 0 5)) 5 ((bytesRow s (grownCap u1 s.size 0 5)).size, (bytesRow s (grownCap u1 s.size 0 5)).size + 1))).drew
        generalize Value.slice (some ⟨u1.heap.size, 0, none⟩) s.size (grownCap u1 s.size 0 5) = x8 at *
        generalize (World.alloc u1 _).drew = u2 at *
        have hS := hS.up hup
        have hU := hU.trans hup
        have hZ := hZ.up hup
        have hA := hA.up hup
        refine hK.out _ _ (.inr hS) ?_
        clear hK hup
        try simp only [Act.put, List.setIfInBounds_toArray, List.set_cons_zero, List.set_cons_succ]
        refine anyE_one (i := 5) rfl (by kernel_rfl) rfl (fun K hK => ?_)
        go_simp
        refine (M2.out _).mono ?_
        rintro e u3 ⟨x5, rfl, hO, hup⟩
        dsimp only
        have hN := hO.seq
        have hS := hS.up hup
        have hU := hU.trans hup
        have hZ := hZ.up hup
        have hA := hA.up hup
        have hT := hT.up hup
        refine hK.out _ _ (.inr hS) ?_
        clear hK hO hup
        try simp only [Act.put, List.setIfInBounds_toArray, List.set_cons_zero, List.set_cons_succ]
        refine anyE_one (i := 6) rfl (by kernel_rfl) rfl (fun K hK => ?_)
        go_simp
        refine (M3.out _ _ _ hA hN).mono ?_
        rintro e u4 ⟨x6, rfl, hO, hup⟩
        dsimp only
        have hJ := hO.seq
        have hS := hS.up hup
        have hU := hU.trans hup
        have hZ := hZ.up hup
        have hA := hA.up hup
        have hN := hN.up hup
        have hT := hT.up hup
        refine hK.out _ _ (.inr hS) ?_
        clear hK hO hup
        try simp only [Act.put, List.setIfInBounds_toArray, List.set_cons_zero, List.set_cons_succ]
        refine anyE_one (i := 9) rfl (by kernel_rfl) rfl (fun K hK => ?_)
        go_simp
        refine (M4.out _ _ _ hJ hT).mono ?_
        rintro e u5 ⟨x9, rfl, hO, hup⟩
        dsimp only
        have hF := hO.seq
        have hS := hS.up hup
        have hU := hU.trans hup
        have hZ := hZ.up hup
        have hA := hA.up hup
        have hN := hN.up hup
        have hJ := hJ.up hup
        have hT := hT.up hup
        refine hK.out _ _ (.inr hS) ?_
        clear hK hO hup
        try simp only [Act.put, List.setIfInBounds_toArray, List.set_cons_zero, List.set_cons_succ]
        refine anyE_takeA (i := 10) (v := ?_) 5 rfl rfl (by kernel_rfl) (by decide) (fun _ _ _ h => h) (by kernel_rfl) (by kernel_rfl) (.inl ⟨by rfl, fun u hu => ?_⟩) hS ?_
        rotate_left
        · (go_simp; first | done | with_reducible rfl)
        try simp only [Act.put, List.setIfInBounds_toArray, List.set_cons_zero, List.set_cons_succ]
        refine anyE_done (by kernel_rfl) ?_ _
        clear hS
        go_wp2_with fail
        go_meet
        exact ⟨hid (HE.out _ _ hF), hid hU, hid hZ⟩
    · have hcv := HCv.out
      go_simp
      clear hcv
      have hT := seq_text_at (w := u0) s (grownCap u0 s.size 0 5) 5 ((bytesRow s (grownCap u0 s.size 0 5)).size, (bytesRow s (grownCap u0 s.size 0 5)).size + 1) rfl cap_ge (cap_le (by omega))
      have hup := ((Up.refl u0).alloc (.cells (bytesRow s (grownCap u0 s.size 0 5)) 5 ((bytesRow s (grownCap u0 s.size 0 5)).size, (bytesRow s (grownCap u0 s.size 0 5)).size + 1))).drew
      generalize Value.slice (some ⟨u0.heap.size, 0, none⟩) s.size (grownCap u0 s.size 0 5) = x8 at *
      generalize (World.alloc u0 _).drew = u1 at *
      have hS := hS.up hup
      have hU := hU.trans hup
      have hZ := hZ.up hup
      refine hK.out _ _ (.inr hS) ?_
      clear hK hup
      try simp only [Act.put, List.setIfInBounds_toArray, List.set_cons_zero, List.set_cons_succ]
      refine anyE_one (i := 2) rfl (by kernel_rfl) rfl (fun K hK => ?_)
      go_simp
      refine (M1.out _).mono ?_
      rintro e u2 ⟨x2, rfl, hO, hup⟩
      dsimp only
      have hA := hO.seq
      have hS := hS.up hup
      have hU := hU.trans hup
      have hZ := hZ.up hup
      have hT := hT.up hup
      refine hK.out _ _ (.inr hS) ?_
      clear hK hO hup
      try simp only [Act.put, List.setIfInBounds_toArray, List.set_cons_zero, List.set_cons_succ]
      refine anyE_one (i := 5) rfl (by kernel_rfl) rfl (fun K hK => ?_)
      go_simp
      refine (M2.out _).mono ?_
      rintro e u3 ⟨x5, rfl, hO, hup⟩
      dsimp only
      have hN := hO.seq
      have hS := hS.up hup
      have hU := hU.trans hup
      have hZ := hZ.up hup
      have hA := hA.up hup
      have hT := hT.up hup
      refine hK.out _ _ (.inr hS) ?_
      clear hK hO hup
      try simp only [Act.put, List.setIfInBounds_toArray, List.set_cons_zero, List.set_cons_succ]
      refine anyE_one (i := 6) rfl (by kernel_rfl) rfl (fun K hK => ?_)
      go_simp
      refine (M3.out _ _ _ hA hN).mono ?_
      rintro e u4 ⟨x6, rfl, hO, hup⟩
      dsimp only
      have hJ := hO.seq
      have hS := hS.up hup
      have hU := hU.trans hup
      have hZ := hZ.up hup
      have hA := hA.up hup
      have hN := hN.up hup
      have hT := hT.up hup
      refine hK.out _ _ (.inr hS) ?_
      clear hK hO hup
      try simp only [Act.put, List.setIfInBounds_toArray, List.set_cons_zero, List.set_cons_succ]
      refine anyE_one (i := 9) rfl (by kernel_rfl) rfl (fun K hK => ?_)
      go_simp
      refine (M4.out _ _ _ hJ hT).mono ?_
      rintro e u5 ⟨x9, rfl, hO, hup⟩
      dsimp only
      have hF := hO.seq
      have hS := hS.up hup
      have hU := hU.trans hup
      have hZ := hZ.up hup
      have hA := hA.up hup
      have hN := hN.up hup
      have hJ := hJ.up hup
      have hT := hT.up hup
      refine hK.out _ _ (.inr hS) ?_
      clear hK hO hup
      try simp only [Act.put, List.setIfInBounds_toArray, List.set_cons_zero, List.set_cons_succ]
      refine anyE_takeA (i := 10) (v := ?_) 5 rfl rfl (by kernel_rfl) (by decide) (fun _ _ _ h => h) (by kernel_rfl) (by kernel_rfl) (.inl ⟨by rfl, fun u hu => ?_⟩) hS ?_
      rotate_left
      · (go_simp; first | done | with_reducible rfl)
      try simp only [Act.put, List.setIfInBounds_toArray, List.set_cons_zero, List.set_cons_succ]
      refine anyE_done (by kernel_rfl) ?_ _
      clear hS
      go_wp2_with fail
      go_meet
      exact ⟨hid (HE.out _ _ hF), hid hU, hid hZ⟩
  case rest =>
    obtain ⟨HF, HU, HZ⟩ := hcut
    go_wp2_with fail
    refine (M5.out _ _ HF.out).mono ?_
    rintro e w2 ⟨rfl, hU2⟩
    have HZ2 := hid (HZ.out.up hU2)
    have HU2 := hid (HU.out.trans hU2)
    clear hU2 HF HU HZ
    unfold hashV
    go_wp2_with (first
      | (refine wpList_buildTo rfl 25 _ rfl _ rfl (drwA H 0) (by kernel_rfl) ?_)
      | (refine wpList_store_rowTo rfl 25 _ _ rfl rfl (o + 1) (drwA H 0) rfl rfl 25 (drwA zeroH 0) HZ2.out (sizeDrw _ _) (by rw [drwA_size, drwA_size]) (drwA_one _ _) ?_))
    refine bodyPost_ret (v := .agg (drwA H 0)) (results_cell_row rfl _ _ (o + 1) 25 _ (0, 0) _ (by rfl) (HZ2.out.row _) Tryd.underlying25 rfl (sizeDrw _ _)) rfl ⟨rfl, HU2.out.setRow (by have := HO.out; omega) _⟩
end Go.Proofs.YtdlcmpbpdbpanaaDoor
