/- The reference's SHA-256: joined, tagged, and the number of a digest. Items in memory, and their encodings. Over any program. -/
import Derived.Test.YtdlcmpbpdbpanaaDoorMRestrictChallenges20
import Derived.Test.YtdlcmpbpdbpanaaDoorMRestrictChallenges17
import Derived.Test.YtdlcmpbpdbpanaaDoorMRestrictChallenges22
import Derived.Test.YtdlcmpbpdbpanaaDoorMRestrictChallenges11
import Derived.Test.YtdlcmpbpdbpanaaDoorMRestrictChallenges4
import Derived.Test.YtdlcmpbpdbpanaaDoorMRestrictChallenges26
import Derived.Test.YtdlcmpbpdbpanaaDoorMRestrictChallenges21
namespace Go.Proofs.YtdlcmpbpdbpanaaDoor
open Go.RowKit Go.Sp
set_option maxHeartbeats 4000000
set_option maxRecDepth 20000

/-- Bytes and the first so many of a digest. -/
def joinTo (h : Nat → Int) (xs : List Int) (i : Nat) : List Int := xs ++ (List.range i).map h
theorem joinTo_length (h : Nat → Int) (xs : List Int) (i : Nat) : (joinTo h xs i).length = xs.length + i := by simp [joinTo]
theorem joinTo_succ (h : Nat → Int) (xs : List Int) (i : Nat) : joinTo h xs i ++ [h i] = joinTo h xs (i + 1) := by
  unfold joinTo
  rw [List.range_succ, List.map_append, List.append_assoc]
  rfl

theorem rHJoin_any (v : Value) (xs : List Int) (h : Nat → Int) (w : World) (hv : SeqAt .u8 w v xs) (hl : xs.length ≤ 1099511627000) :
    Calls Tryd.prog 124 #[v, hashV h] w fun e w' => ∃ v', e = .returned v' ∧ OwnS 5 .u8 w' (w.heap.size + 1) v' (xs ++ hList h) ∧ Up w w' := by
  have hget := fun i (hi : i < 32) => arrK_get (k := .u8) (f := h) hi
  have HEnd : Hid (joinTo h xs 32 = xs ++ hList h) := hid rfl
  have HLn := hid (joinTo_length h xs)
  have HSn := hid (joinTo_succ h xs)
  have HZero : Hid ([] ++ xs = joinTo h xs 0) := hid (by simp [joinTo])
  have HV := hid hv
  obtain ⟨n, hn⟩ : ∃ n, xs.length = n := ⟨_, rfl⟩
  obtain ⟨va, vc, rfl, _, _⟩ := hv.shape
  rw [hn] at HV hl HLn
  rw [hn]
  unfold hashV
  generalize arrK .u8 h 32 = cs at *
  have HG := hid hget
  have HXN := hid hn
  clear hget hv hn
  go_enter Tryd.func124, Tryd.ntmps124
  have HB0 := hid ((Blk.new (w := w) (t := 23) (cs := cs) rfl rfl).alloc (.cells #[] 5))
  have hs1 : (w.alloc (.cells cs 23)).heap.size = w.heap.size + 1 := by simp
  have hE := own_empty (e := 5) (k := .u8) (base := w.heap.size + 1) (Blk.new (w := w.alloc (.cells cs 23)) (t := 5) (cs := #[]) hs1 rfl) (Nat.le_refl _)
  have hu2 := ((Up.refl w).alloc (.cells cs 23)).alloc (.cells #[] 5)
  have HS1 := hid hs1
  have HE := hid hE
  have HU2 := hid hu2
  clear hs1 hE hu2
  go_wp2_with (at_builtin; refine wp_app infoU8 Tryd.underlying31 (by omega) rfl _ _ rfl (w.heap.size + 1) (v := .slice (some ⟨w.heap.size + 1, 0, none⟩) 0 0) rfl rfl HE.out (HV.out.up HU2.out) (by have := HXN.out; simp; omega) (by simp) ?_; intro v3 w3 hO3 hg3)
  have hU3 := HU2.out.own HE.out hg3 (by omega)
  have hB3 := HB0.out.below (below_own HE.out hg3 (by simp)) (by omega)
  rw [HZero.out] at hO3
  obtain ⟨p3, k3, rfl, _, _⟩ := hO3.shape
  rw [HLn.out 0, Nat.add_zero] at hO3
  rw [HLn.out 0, Nat.add_zero]
  obtain ⟨o, ho⟩ : ∃ o, w.heap.size = o := ⟨_, rfl⟩
  rw [ho] at hO3 hB3
  rw [ho]
  have HOo := hid ho
  have HO3 := hid hO3
  have HB3 := hid hB3
  have HU3 := hid hU3
  clear ho hO3 hB3 hU3 hg3 HE HU2 HS1 HB0
  go_wp2_with fail
  go_loopw [5, 6] (fun vp vi wr => ∃ (i : Nat) (p : Option Addr) (c : Nat), i ≤ 32 ∧ vi = .int .i64 i ∧ vp = .slice p (n + i) c ∧ Hid (OwnS 5 .u8 wr (o + 1) (.slice p (n + i) c) (joinTo h xs i)) ∧ Hid (Blk wr o 23 cs) ∧ Hid (Up w wr)) (fun _ vi _ => 32 - (intOf vi).toNat)
  case atStart => exact ⟨0, _, _, by omega, rfl, rfl, HO3, HB3, HU3⟩
  case round =>
    clear HO3 HB3 HU3
    obtain ⟨i, p, c, hi, rfl, rfl, HO, HB, HU⟩ := hrel
    by_cases hlt : i < 32
    · have q1 := HB.out.val (HG.out i hlt)
      have HS := hid (HSn.out i)
      have HLi := hid (HLn.out i)
      have HLi1 := hid (HLn.out (i + 1))
      have hbs : o + 1 ≤ wr.heap.size := by have := HB.out.lt; omega
      generalize h i = x at *
      obtain ⟨m, hm⟩ : ∃ m, n + i = m := ⟨_, rfl⟩
      have HM := hid hm
      rw [hm] at HO HLi
      rw [hm]
      have hmn : m ≤ n + 32 := by omega
      clear hm
      go_wp2_with (at_builtin; refine wp_app infoU8 Tryd.underlying31 (by omega) rfl _ _ rfl (o + 1) rfl rfl (HO.out.up ((Up.refl wr).alloc _)) (seq_new _ _ _) (by have := HLi.out; simp; omega) (by simp; omega) ?_; intro v' w' hO' hg')
      have hU' := (HU.out.alloc _).own (HO.out.up ((Up.refl wr).alloc _)) hg' (by have := HOo.out; omega)
      have hB' := (HB.out.alloc _).below (below_own (HO.out.up ((Up.refl wr).alloc _)) hg' (by simp; omega)) (by omega)
      rw [HS.out] at hO'
      obtain ⟨p', k', rfl, _, _⟩ := hO'.shape
      rw [HLi1.out] at hO'
      rw [HLi1.out]
      have HO' := hid hO'
      have HU' := hid hU'
      have HB' := hid hB'
      clear hO' hU' hB' hg' HO HU HB
      go_wp2_with fail
      go_roundw
      case rel => exact ⟨i + 1, p', k', by omega, by go_num, rfl, HO', HB', HU'⟩
      case measure => simp [intOf]; omega
    · have hi32 : i = 32 := by omega
      have HO2 := hid HO.out
      rw [hi32, HEnd.out] at HO2
      rw [hi32]
      clear hi32 HO hlt hi
      go_wp2_with fail
      go_ret
      exact ⟨_, rfl, by rw [HOo.out]; exact HO2.out, HU.out⟩

theorem rTagged_any (s : ByteArray) (v : Value) (xs : List Int) (w : World) (hs1 : s.size ≤ 100) (hv : SeqAt .u8 w v xs) (hl : xs.length ≤ 1099511626000) (hB : ∀ x ∈ xs, 0 ≤ x ∧ x ≤ 255) :
    Calls Tryd.prog 67 #[.string s, v] w fun e w' => e = .returned (hashV (tagB (txt s) xs)) ∧ Up w w' := by
  have HV := hid hv
  have HTx := hid (txt_byt s)
  have HTl := hid (txt_length s)
  obtain ⟨h, hh⟩ : ∃ h, shaB (txt s) = h := ⟨_, rfl⟩
  have Hhb : Hid (∀ i, 0 ≤ h i ∧ h i ≤ 255) := hid (by rw [← hh]; exact shaB_range _)
  have HR : Hid (tagB (txt s) xs = shaB (hList h ++ hList h ++ xs)) := hid (by rw [tagB, hh])
  obtain ⟨R, hR⟩ : ∃ R, tagB (txt s) xs = R := ⟨_, rfl⟩
  rw [hR] at HR
  rw [hR]
  have HS1 := hid (fun w' (v' : Value) (hv' : SeqAt .u8 w' v' (txt s)) => rSum_any v' (txt s) w' hv' (by rw [txt_length]; omega) HTx.out)
  rw [hh] at HS1
  have HS2 := hid (fun w' (v' : Value) (hv' : SeqAt .u8 w' v' (hList h ++ hList h ++ xs)) => rSum_any v' _ w' hv' (by simp [hList_length]; omega) (by
    intro x hx
    simp only [List.mem_append] at hx
    rcases hx with (hx | hx) | hx
    · exact hList_byt Hhb.out x hx
    · exact hList_byt Hhb.out x hx
    · exact hB x hx))
  rw [← HR.out] at HS2
  have hcv := fun w' => run_bytes_of_string (P := Tryd.prog) w' 9 31 5 s Tryd.underlying9 Tryd.underlying31 Tryd.underlying5
  obtain ⟨n, hn⟩ : ∃ n, xs.length = n := ⟨_, rfl⟩
  have HN := hid hn
  obtain ⟨va, vc, rfl, _, _⟩ := hv.shape
  rw [hn] at HV hl
  rw [hn]
  clear hv hh hR hn hB
  go_enter Tryd.func67, Tryd.ntmps67
  go_wp2_with fail
  refine (HS1.out _ _ (seq_text_at s _ _ _ (by simp) cap_ge (cap_le (by omega)))).mono ?_
  rintro e w1 ⟨rfl, hU1⟩
  have hZ1 : Blk w1 w.heap.size 23 (arrK .u8 (fun _ => 0) 32) := (((Blk.new rfl zero32).alloc _).up (Up.refl _).drew).up hU1
  have hU1 := (((Up.refl w).alloc _).alloc _).drew.trans hU1
  obtain ⟨o, ho⟩ : ∃ o, w.heap.size = o := ⟨_, rfl⟩
  have HOo := hid ho
  rw [ho] at hZ1
  rw [ho]
  have l1 := hZ1.lt
  clear hcv ho HS1
  unfold hashV
  go_wp2_with (first | (refine wpList_store_rowTo rfl 23 _ _ rfl rfl _ _ rfl rfl 23 _ (heap_alloc_new _ _) (by rw [arrK_size]; kernel_rfl) (by rw [arrK_size]; rfl) arrK_one ?_; rw [World.setRow_alloc_new]))
  obtain ⟨g, hg⟩ : ∃ g, w1.heap.size = g := ⟨_, rfl⟩
  rw [hg]
  obtain ⟨w2, hw2⟩ : ∃ w2, w1.alloc (.cells (arrK .u8 h 32) 23) = w2 := ⟨_, rfl⟩
  have hG2 : Blk w2 g 23 (arrK .u8 h 32) := by rw [← hw2]; exact Blk.new hg rfl
  have hZ2 : Blk w2 o 23 (arrK .u8 (fun _ => 0) 32) := by rw [← hw2]; exact hZ1.alloc _
  have hU2 : Up w w2 := by rw [← hw2]; exact hU1.alloc _
  rw [hg] at l1
  rw [hw2]
  have HG := hid hG2
  have HZ := hid hZ2
  have HU := hid hU2
  have hsz := hG2.lt
  clear hw2 hZ1 hU1 hG2 hZ2 hU2 hg
  have HLn := hid (hList_length h)
  have hud := (Up.refl w2).drew
  refine region_E (fun w' => Blk w' g 23 (arrK .u8 h 32)) 7 (by kernel_rfl) (HG.out.up hud) fun hS => ?_
  refine anyE_take (i := 4) (v := ?_) 13 rfl rfl (by kernel_rfl) (by kernel_rfl) (by decide) (fun _ _ _ h => h) (by kernel_rfl) (by kernel_rfl) (.inl ⟨by rfl, fun u hu => ?_⟩) hS ?_
  rotate_left
  · (go_simp; first | done | with_reducible rfl)
  simp only [Act.put, List.setIfInBounds_toArray, List.set_cons_succ]
  refine anyE_take (i := 0) (v := .agg (arrK .u8 h 32).toList.toArray) 9 rfl rfl (by kernel_rfl) (by kernel_rfl) (by decide) (fun _ _ _ h => h) (by kernel_rfl) (by kernel_rfl) (yieldsIf_load_mid (by rfl) 23 _ rfl g 0 rfl (arrK .u8 h 32).toList _ (fun u hu => blk_range hu) Tryd.underlying23 rfl (by rw [Array.length_toList, arrK_size]; kernel_rfl)) hS ?_
  rw [Array.toArray_toList]
  simp only [Act.put, List.setIfInBounds_toArray, List.set_cons_succ]
  refine anyE_take (i := 2) (v := .agg (arrK .u8 h 32).toList.toArray) 11 rfl rfl (by kernel_rfl) (by kernel_rfl) (by decide) (fun _ _ _ h => h) (by kernel_rfl) (by kernel_rfl) (yieldsIf_load_mid (by rfl) 23 _ rfl g 0 rfl (arrK .u8 h 32).toList _ (fun u hu => blk_range hu) Tryd.underlying23 rfl (by rw [Array.length_toList, arrK_size]; kernel_rfl)) hS ?_
  rw [Array.toArray_toList]
  simp only [Act.put, List.setIfInBounds_toArray, List.set_cons_succ]
  refine anyE_one (i := 1) rfl (by kernel_rfl) rfl (fun K hK => ?_)
  go_simp
  refine (rHJoin_any _ [] h _ seq_none (by simp)).mono ?_
  rintro e w3 ⟨v3, rfl, hO3, hU3⟩
  dsimp only
  have hD3 := hud.trans hU3
  have hS3 := Blk.up hS hU3
  refine hK.out _ _ (.inr hS3) ?_
  clear hK
  refine anyE_one (i := 3) rfl (by kernel_rfl) rfl (fun K hK => ?_)
  go_simp
  refine (rHJoin_any _ _ h _ hO3.seq (by have := HLn.out; simp; omega)).mono ?_
  rintro e w4 ⟨v4, rfl, hO4, hU4⟩
  dsimp only
  have hD4 := hD3.trans hU4
  have hS4 := Blk.up hS3 hU4
  have hO4 := hO4.mono (base' := w2.heap.size) (by have := hD3.size; omega)
  refine hK.out _ _ (.inr hS4) ?_
  clear hK
  refine anyE_one (i := 5) rfl (by kernel_rfl) rfl (fun K hK => ?_)
  refine op_app infoU8 Tryd.underlying31 (by omega) _ _ rfl w2.heap.size rfl rfl hO4 (HV.out.up (HU.out.trans hD4)) (by have := HLn.out; have := HN.out; simp; omega) hD4.size ?_
  intro v5 w5 hO5 hg5
  have hB5 := below_own hO4 hg5 hD4.size
  have hS5 := hS4.below hB5 hsz
  have hZ5 := (HZ.out.up hD4).below hB5 HZ.out.lt
  have hU5 := (HU.out.trans hD4).own hO4 hg5 HU.out.size
  simp only [Act.put, List.setIfInBounds_toArray]
  refine hK.out _ _ (.inr hS5) ?_
  clear hK
  refine anyE_one (i := 6) rfl (by kernel_rfl) rfl (fun K hK => ?_)
  go_simp
  refine (HS2.out _ _ hO5.seq).mono ?_
  rintro e w6 ⟨rfl, hu6⟩
  dsimp only
  have hZ6 := hZ5.up hu6
  have hU6 := hU5.trans hu6
  refine hK.out _ _ (.inr (Blk.up hS5 hu6)) ?_
  clear hK
  refine anyE_one (i := 7) rfl (by kernel_rfl) rfl (fun K hK => ?_)
  refine op_store_row 23 _ _ rfl rfl o (arrK .u8 R 32) rfl rfl 23 (arrK .u8 (fun _ => 0) 32) hZ6 (by rw [arrK_size]; kernel_rfl) (by rw [arrK_size, arrK_size]) arrK_one ?_
  refine hK.out _ _ (.inl rfl) (anyE_done (by kernel_rfl) ?_ _)
  clear hK
  go_wp2
  refine bodyPost_ret (v := .agg (arrK .u8 R 32)) (results_cell_row rfl _ _ o 23 _ (0, 0) _ (by rfl) (hZ6.row _) Tryd.underlying23 rfl (by rw [arrK_size]; kernel_rfl)) rfl ⟨rfl, hU6.setRow (by have := HOo.out; omega) _⟩

theorem rNumber_ok (h : Nat → Int) (m : Int) (w : World) (hB : Byt h) (m0 : 1 ≤ m) (m1 : m < 2305843009213693952) :
    Calls Tryd.prog 84 #[hashV h, .int .i64 m] w fun e w' => e = .returned (.int .i64 (numH h m)) ∧ Up w w' := by
  have hget := fun i (hi : i < 32) => arrK_get (k := .u8) (f := h) hi
  unfold hashV
  generalize arrK .u8 h 32 = cs at *
  have HG := hid hget
  have HB := hid hB
  have HN : Hid (numH h m = numB h m 16) := hid rfl
  clear hget hB
  have dm : (m == 0) = false := by simp; omega
  have dm2 : m ≠ 0 := by omega
  go_enter Tryd.func84, Tryd.ntmps84
  go_wp2_with fail
  have HB0 := hid (Blk.new (w := w) (t := 23) (cs := cs) rfl rfl)
  have HU0 := hid ((Up.refl w).alloc (.cells cs 23))
  obtain ⟨o, ho⟩ : ∃ o, w.heap.size = o := ⟨_, rfl⟩
  rw [ho] at HB0
  rw [ho]
  clear ho
  go_loopw [5, 6] (fun vx vi wr => ∃ i : Nat, i ≤ 16 ∧ vi = .int .i64 i ∧ vx = .int .i64 (numB h m i) ∧ Hid (Blk wr o 23 cs) ∧ Hid (Up w wr)) (fun _ vi _ => 16 - (intOf vi).toNat)
  case atStart => exact ⟨0, by omega, rfl, rfl, HB0, HU0⟩
  case round =>
    clear HB0 HU0
    obtain ⟨i, hi, rfl, rfl, HBk, HU⟩ := hrel
    by_cases hlt : i < 16
    · have q1 := cupF (HBk.out.val (HG.out i (by omega)))
      have r3 := HB.out i
      obtain ⟨x0, x1⟩ := numB_range (h := h) (m := m) (by omega) i
      have HS : Hid (numB h m (i + 1) = (numB h m i * 256 + h i) % m) := hid rfl
      generalize numB h m i = x at *
      generalize h i = c at *
      have hc0 := r3.1
      have hc1 := r3.2
      have di : decide ((i : Int) < 16) = true := by simp; omega
      have di2 : (i : Int) < 32 := by omega
      clear r3
      have htm : (256 : Int).tmod m = 256 % m := Int.tmod_eq_emod_of_nonneg (by omega)
      have e0 := Int.emod_nonneg 256 dm2
      have e1 := Int.emod_lt_of_pos 256 (show 0 < m by omega)
      have HR := hid (num_ref x c m)
      have p0 := Int.emod_nonneg (x * (256 % m)) dm2
      have p1 := Int.emod_lt_of_pos (x * (256 % m)) (show 0 < m by omega)
      have HM := hid (fun w' => (rMul_ok x (256 % m) m w' x0 x1 e0 e1 m1).mono fun e u h => (⟨h.1, by rw [← h.2]; exact Up.refl _⟩ : e = .returned (.int .i64 (x * (256 % m) % m)) ∧ Up w' u))
      have HD := hid (fun w' => (rReduce_ok (x * (256 % m) % m + c) m w' (by omega) (by omega) m0 m1).mono fun e u h => (⟨h.1, by rw [← h.2]; exact Up.refl _⟩ : e = .returned (.int .i64 ((x * (256 % m) % m + c) % m)) ∧ Up w' u))
      rw [HR.out] at HD
      generalize x * (256 % m) % m = z at *
      generalize 256 % m = y at *
      go_wp2_with fail
      refine wp_region_up (by kernel_rfl) (by kernel_rfl) ?_
      repeat (go_big_quiet_step ((first | (exact Calls.up_of (HM.out _)) | (exact Calls.up_of (HD.out _)))))
      refine wpQuiet_nil ?_
      rintro _ ⟨p, rfl⟩
      go_wp2_with fail
      go_roundw
      case rel => exact ⟨i + 1, by omega, by go_num, by rw [HS.out], hid (HBk.out.up p.up), hid (HU.out.trans p.up)⟩
      case measure => simp [intOf]; omega
    · obtain rfl : i = 16 := by omega
      go_wp2
      go_ret
      exact ⟨by rw [HN.out]; rfl, HU.out⟩
end Go.Proofs.YtdlcmpbpdbpanaaDoor
namespace Go.Sp
open Go.RowKit

/-- An item as a value. -/
abbrev nilS : Value := .slice none 0 0
abbrev itm (k n : Int) (b l : Value) : Value := .agg #[.int .i64 k, .int .i64 n, b, l]

/-- The cells of an item at an offset of a block. -/
def ItmCells (w : World) (b o : Nat) (k n : Int) (vb vl : Value) : Prop :=
  w.cell? ⟨b, o, none⟩ = some (.int .i64 k) ∧ w.cell? ⟨b, o + 1, none⟩ = some (.int .i64 n) ∧ w.cell? ⟨b, o + 2, none⟩ = some vb ∧ w.cell? ⟨b, o + 3, none⟩ = some vl

/-- A slice of items, of which each has a property and an encoding. -/
def ItmRow (R : Int → Int → Value → Value → List Int → Prop) (w : World) (v : Value) (ess : List (List Int)) : Prop :=
  ∃ a cap, v = .slice a ess.length cap ∧ ess.length ≤ cap ∧ cap ≤ 9223372036854775807 ∧ (a = none → cap = 0) ∧
    ∀ i, i < ess.length → ∃ b off k n vb vl, a = some ⟨b, off, none⟩ ∧ ItmCells w b (off + i * 4) k n vb vl ∧ R k n vb vl (ess.getD i [])

/-- An integer, or bytes. -/
def Leaf (w : World) (k n : Int) (b l : Value) (es : List Int) : Prop :=
  (k = 1 ∧ b = nilS ∧ l = nilS ∧ es = encInt n) ∨ (k = 2 ∧ n = 0 ∧ l = nilS ∧ ∃ xs, SeqAt .u8 w b xs ∧ xs.length ≤ 1000000 ∧ (∀ x ∈ xs, 0 ≤ x ∧ x ≤ 255) ∧ es = encBytes xs)

/-- An item with so many lists about its leaves at most, and its encoding. -/
def ItmAt (w : World) : Nat → Int → Int → Value → Value → List Int → Prop
  | 0, k, n, b, l, es => Leaf w k n b l es
  | d + 1, k, n, b, l, es => Leaf w k n b l es ∨ (k = 3 ∧ n = 0 ∧ b = nilS ∧ ∃ ess, ess.length ≤ 1000 ∧ ItmRow (ItmAt w d) w l ess ∧ es = encList ess)

theorem ItmCells.up {w w' : World} {b o : Nat} {k n : Int} {vb vl : Value} (h : ItmCells w b o k n vb vl) (hU : Up w w') : ItmCells w' b o k n vb vl := by
  obtain ⟨h1, h2, h3, h4⟩ := h
  exact ⟨by rw [hU.cell (cell_in h1)]; exact h1, by rw [hU.cell (cell_in h1)]; exact h2, by rw [hU.cell (cell_in h1)]; exact h3, by rw [hU.cell (cell_in h1)]; exact h4⟩

theorem ItmRow.up {R R' : Int → Int → Value → Value → List Int → Prop} {w w' : World} {v : Value} {ess : List (List Int)} (h : ItmRow R w v ess) (hU : Up w w') (hR : ∀ k n b l es, R k n b l es → R' k n b l es) : ItmRow R' w' v ess := by
  obtain ⟨a, cap, h1, h2, h3, h4, h5⟩ := h
  refine ⟨a, cap, h1, h2, h3, h4, fun i hi => ?_⟩
  obtain ⟨b, off, k, n, vb, vl, ha, hc, hr⟩ := h5 i hi
  exact ⟨b, off, k, n, vb, vl, ha, hc.up hU, hR _ _ _ _ _ hr⟩

theorem Leaf.up {w w' : World} {k n : Int} {b l : Value} {es : List Int} (h : Leaf w k n b l es) (hU : Up w w') : Leaf w' k n b l es := by
  rcases h with h | ⟨h1, h2, h3, xs, h4, h5⟩
  · exact .inl h
  · exact .inr ⟨h1, h2, h3, xs, h4.up hU, h5⟩

theorem ItmAt.up {w w' : World} (hU : Up w w') : ∀ {d : Nat} {k n : Int} {b l : Value} {es : List Int}, ItmAt w d k n b l es → ItmAt w' d k n b l es
  | 0, _, _, _, _, _, h => Leaf.up h hU
  | _ + 1, _, _, _, _, _, .inl h => .inl (h.up hU)
  | _ + 1, _, _, _, _, _, .inr ⟨h1, h2, h3, ess, h4, h5, h6⟩ => .inr ⟨h1, h2, h3, ess, h4, h5.up hU fun _ _ _ _ _ => ItmAt.up hU, h6⟩

theorem ItmAt.leaf {w : World} {k n : Int} {b l : Value} {es : List Int} (h : Leaf w k n b l es) : ∀ d, ItmAt w d k n b l es
  | 0 => h
  | _ + 1 => .inl h

theorem ItmAt.more {w : World} : ∀ {d : Nat} {k n : Int} {b l : Value} {es : List Int}, ItmAt w d k n b l es → ItmAt w (d + 1) k n b l es
  | 0, _, _, _, _, _, h => .inl h
  | _ + 1, _, _, _, _, _, .inl h => .inl h
  | _ + 1, _, _, _, _, _, .inr ⟨h1, h2, h3, ess, h4, h5, h6⟩ => .inr ⟨h1, h2, h3, ess, h4, h5.up (Up.refl _) fun _ _ _ _ _ => ItmAt.more, h6⟩

theorem itm_int (w : World) (n : Int) (d : Nat) : ItmAt w d 1 n nilS nilS (encInt n) := ItmAt.leaf (.inl ⟨rfl, rfl, rfl, rfl⟩) d
theorem itm_bytes {w : World} {v : Value} {xs : List Int} (h : SeqAt .u8 w v xs) (hl : xs.length ≤ 1000000) (hB : ∀ x ∈ xs, 0 ≤ x ∧ x ≤ 255) (d : Nat) : ItmAt w d 2 0 v nilS (encBytes xs) :=
  ItmAt.leaf (.inr ⟨rfl, rfl, rfl, xs, h, hl, hB, rfl⟩) d
theorem itm_list {w : World} {v : Value} {ess : List (List Int)} {d : Nat} (h : ItmRow (ItmAt w d) w v ess) (hl : ess.length ≤ 1000) : ItmAt w (d + 1) 3 0 nilS v (encList ess) := .inr ⟨rfl, rfl, rfl, ess, hl, h, rfl⟩

/-- What writes as far as 16384 bytes. -/
def Wrote (xs es ys : List Int) : Prop := (xs.length + es.length ≤ 16384 → ys = xs ++ es) ∧ (16384 < xs.length + es.length → 16384 < ys.length) ∧ ys.length ≤ xs.length + es.length

theorem Wrote.full {xs : List Int} (es : List Int) (h : 16384 < xs.length) : Wrote xs es xs := ⟨fun h' => by omega, fun _ => h, by omega⟩
theorem Wrote.all (xs es : List Int) : Wrote xs es (xs ++ es) := ⟨fun _ => rfl, fun h => by rw [List.length_append]; exact h, by rw [List.length_append]; omega⟩
theorem Wrote.next {xs a ys b zs : List Int} (h : Wrote xs a ys) (k : Wrote ys b zs) : Wrote xs (a ++ b) zs := by
  obtain ⟨h1, h2, h3⟩ := h
  obtain ⟨k1, k2, k3⟩ := k
  rw [Wrote, List.length_append]
  refine ⟨fun hl => ?_, fun hl => ?_, by omega⟩
  · have e1 := h1 (by omega)
    rw [k1 (by rw [e1, List.length_append]; omega), e1, List.append_assoc]
  · by_cases hx : xs.length + a.length ≤ 16384
    · have e1 := h1 hx
      exact k2 (by rw [e1, List.length_append]; omega)
    · have := h2 (by omega)
      exact k2 (by omega)

theorem flatten_take {ess : List (List Int)} {i : Nat} (hi : i < ess.length) : (ess.take (i + 1)).flatten = (ess.take i).flatten ++ ess.getD i [] := by
  rw [List.take_succ_eq_append_getElem hi, List.flatten_append]
  simp [hi]
theorem flatten_take_le (ess : List (List Int)) (i : Nat) : (ess.take i).flatten.length ≤ ess.flatten.length := by
  have : ess.flatten = (ess.take i).flatten ++ (ess.drop i).flatten := by rw [← List.flatten_append, List.take_append_drop]
  rw [this, List.length_append]
  omega
theorem flatten_at_le {ess : List (List Int)} {i : Nat} (hi : i < ess.length) : (ess.take i).flatten.length + (ess.getD i []).length ≤ ess.flatten.length := by
  have h := flatten_take_le ess (i + 1)
  rw [flatten_take hi, List.length_append] at h
  exact h

/-- The four cells of an item. -/
structure Quad where
  (k n : Int)
  (b l : Value)
def Quad.cells (q : Quad) : List Value := [.int .i64 q.k, .int .i64 q.n, q.b, q.l]
/-- The items are the call's own. -/
def OwnQ (e : TypeId) (w : World) (base : Nat) (v : Value) (qs : List Quad) : Prop := w.ownsRow base e 4 v qs.length (qs.flatMap Quad.cells)
/-- Each of the items has its encoding. -/
def QuadAt (w : World) (d : Nat) (qs : List Quad) (ess : List (List Int)) : Prop := qs.length = ess.length ∧ ∀ i (h : i < qs.length), ItmAt w d qs[i].k qs[i].n qs[i].b qs[i].l (ess.getD i [])

theorem quads_at (qs : List Quad) (i j : Nat) (h : i < qs.length) (hj : j < 4) : (qs.flatMap Quad.cells)[i * 4 + j]? = (qs[i].cells)[j]? := by
  induction qs generalizing i with
  | nil => simp at h
  | cons q qs ih =>
    rw [List.flatMap_cons]
    have hl : q.cells.length = 4 := rfl
    cases i with
    | zero =>
      rw [List.getElem?_append_left (by omega)]
      simp
    | succ i =>
      rw [List.getElem?_append_right (by omega), hl, show (i + 1) * 4 + j - 4 = i * 4 + j by omega, ih i (by simpa using h)]
      simp
theorem quads_length (qs : List Quad) : (qs.flatMap Quad.cells).length = qs.length * 4 := by
  induction qs with
  | nil => rfl
  | cons q qs ih =>
    rw [List.flatMap_cons, List.length_append, ih, List.length_cons]
    have hl : q.cells.length = 4 := rfl
    omega

theorem ownQ_none {e : TypeId} {w : World} {base : Nat} : OwnQ e w base nilS [] := ⟨by simp, .inl ⟨rfl, rfl⟩⟩

theorem OwnQ.row {e : TypeId} {w : World} {base : Nat} {v : Value} {qs : List Quad} {d : Nat} {ess : List (List Int)} (h : OwnQ e w base v qs) (hq : QuadAt w d qs ess) : ItmRow (ItmAt w d) w v ess := by
  obtain ⟨hlen, hq⟩ := hq
  have hh := h
  rcases h.2 with ⟨hv, hn⟩ | ⟨g, cap, cur, rfl, hb, hg, hn, hm, hs, ht⟩
  · exact ⟨none, 0, by rw [hv, ← hlen, hn], by omega, by omega, fun _ => rfl, fun i hi => by omega⟩
  · refine ⟨_, cap, by rw [hlen], by omega, by unfold maxLen at hm; omega, (fun h => by cases h), fun i hi => ?_⟩
    have hi' : i < qs.length := by omega
    have hc : ∀ j, j < 4 → w.cell? ⟨g, 0 + i * 4 + j, none⟩ = qs[i].cells[j]? := fun j hj => by
      rw [← quads_at qs i j hi' hj, Nat.zero_add]
      exact World.ownsRow.cellAt hh (i * 4 + j) (by omega)
    refine ⟨g, 0, qs[i].k, qs[i].n, qs[i].b, qs[i].l, rfl, ⟨by rw [show 0 + i * 4 = 0 + i * 4 + 0 from rfl, hc 0 (by omega)]; rfl, by rw [hc 1 (by omega)]; rfl, by rw [hc 2 (by omega)]; rfl, by rw [hc 3 (by omega)]; rfl⟩, hq i hi'⟩

theorem Leaf.one {w : World} {k n : Int} {b l : Value} {es : List Int} (h : Leaf w k n b l es) : b.oneCell' = true ∧ l.oneCell' = true := by
  rcases h with ⟨_, rfl, rfl, _⟩ | ⟨_, _, rfl, xs, h, _⟩
  · exact ⟨rfl, rfl⟩
  · obtain ⟨a, cap, rfl, _⟩ := h
    exact ⟨rfl, rfl⟩
theorem ItmAt.one {w : World} : ∀ {d : Nat} {k n : Int} {b l : Value} {es : List Int}, ItmAt w d k n b l es → b.oneCell' = true ∧ l.oneCell' = true
  | 0, _, _, _, _, _, h => Leaf.one h
  | _ + 1, _, _, _, _, _, .inl h => h.one
  | _ + 1, _, _, _, _, _, .inr ⟨_, _, h, ess, _, h5, _⟩ => by
    obtain ⟨a, cap, rfl, _⟩ := h5
    subst h
    exact ⟨rfl, rfl⟩

/-- append(l, more...) onto the call's own items: at the operation of a walk. -/
theorem wp_appQ {P : Program} {e t : TypeId} {z : Value} {bytes : Nat} (hI : (P.info? e).map (fun i => (i.zero, i.size, i.bytes)) = some (some z, 4, bytes)) (hz : z.cells.size = 4) (ht : P.underlying t = some (.slice e)) (hby : bytes ≤ 64)
    {ops : Array Oper} {rest : List Oper} {o : Oper} {a : Act} {w : World} {Q : Exit → Act → World → Prop} (hgd : o.guard = none) (s x : Operand)
    (ho : o.op = .call { callee := .builtin .append, args := #[s, x], argTypes := #[t, t] })
    (base : Nat) {v : Value} {qs news : List Quad} (hs : a.eval s = v) (hown : OwnQ e w base v qs) (g c : Nat) (hx : a.eval x = .slice (some ⟨g, 0, none⟩) news.length c)
    (hblk : ∀ i (h : i < news.length), ItmCells w g (i * 4) news[i].k news[i].n news[i].b news[i].l) (hone : ∀ i (h : i < news.length), news[i].b.oneCell' = true ∧ news[i].l.oneCell' = true)
    (hroom : qs.length + news.length ≤ 1000000) (hbase : base ≤ w.heap.size)
    (h : ∀ v' w', OwnQ e w' base v' (qs ++ news) → w.grownBy w' v.ownBlock → wpList P ops Q rest (a.put o.dst v') w') : wpList P ops Q (o :: rest) a w := by
  obtain ⟨i0, hi, hz0, hz1, hz2⟩ := info_parts hI
  refine wpList_append_own w hgd s x t ho base e i0 z 4 bytes ht hi hz0 hz1 hz2 hz (by decide) v qs.length _ hs hown ⟨g, 0, none⟩ news.length c (news.flatMap Quad.cells) hx (quads_length _) (fun j u hj => ?_) (fun u hu => ?_) (by unfold maxLen; omega) (by
      have := Nat.mul_le_mul hroom hby
      omega) hbase fun v' w' h1 h2 _ => h v' w' (by
        unfold OwnQ
        rw [List.length_append, List.flatMap_append]
        exact h1) h2
  · have hj2 : j < news.length * 4 := by
      have := (List.getElem?_eq_some_iff.1 hj).1
      rw [quads_length] at this
      exact this
    rw [Addr.add_lit, Nat.zero_add]
    obtain ⟨c0, c1, c2, c3⟩ := hblk (j / 4) (by omega)
    have hq := quads_at news (j / 4) (j % 4) (by omega) (by omega)
    rw [show j / 4 * 4 + j % 4 = j by omega, hj] at hq
    have hr : j % 4 = 0 ∨ j % 4 = 1 ∨ j % 4 = 2 ∨ j % 4 = 3 := by omega
    rw [show j = j / 4 * 4 + j % 4 by omega]
    rcases hr with hr | hr | hr | hr <;> rw [hr] at hq ⊢ <;> simp only [Quad.cells, List.getElem?_cons_zero, List.getElem?_cons_succ] at hq
    · rw [hq]; exact c0
    · rw [hq]; exact c1
    · rw [hq]; exact c2
    · rw [hq]; exact c3
  · obtain ⟨q, hq, hu⟩ := List.mem_flatMap.1 hu
    obtain ⟨i, hi, rfl⟩ := List.getElem_of_mem hq
    obtain ⟨o1, o2⟩ := hone i hi
    simp only [Quad.cells, List.mem_cons, List.not_mem_nil, or_false] at hu
    rcases hu with rfl | rfl | rfl | rfl
    · rfl
    · rfl
    · exact o1
    · exact o2

theorem QuadAt.nil (w : World) (d : Nat) : QuadAt w d [] [] := ⟨rfl, fun i h => by simp at h⟩
theorem QuadAt.app {w : World} {d : Nat} {qs rs : List Quad} {es fs : List (List Int)} (h : QuadAt w d qs es) (k : QuadAt w d rs fs) : QuadAt w d (qs ++ rs) (es ++ fs) := by
  refine ⟨by rw [List.length_append, List.length_append, h.1, k.1], fun i hi => ?_⟩
  rw [List.length_append] at hi
  by_cases h1 : i < qs.length
  · rw [List.getElem_append_left h1, List.getD_eq_getElem?_getD, List.getElem?_append_left (by have := h.1; omega), ← List.getD_eq_getElem?_getD]
    exact h.2 i h1
  · rw [List.getElem_append_right (by omega), List.getD_eq_getElem?_getD, List.getElem?_append_right (by have := h.1; omega), ← List.getD_eq_getElem?_getD, ← h.1]
    exact k.2 (i - qs.length) (by omega)
theorem QuadAt.one {w : World} {d : Nat} {q : Quad} {es : List Int} (h : ItmAt w d q.k q.n q.b q.l es) : QuadAt w d [q] [es] :=
  ⟨rfl, fun i hi => by
    obtain rfl : i = 0 := by simp at hi; omega
    exact h⟩

theorem OwnQ.up {e : TypeId} {w w' : World} {base : Nat} {v : Value} {qs : List Quad} (h : OwnQ e w base v qs) (hU : Up w w') : OwnQ e w' base v qs := ownsRow_later h hU
theorem QuadAt.up {w w' : World} {d : Nat} {qs : List Quad} {ess : List (List Int)} (h : QuadAt w d qs ess) (hU : Up w w') : QuadAt w' d qs ess := ⟨h.1, fun i hi => (h.2 i hi).up hU⟩
theorem OwnQ.block {e : TypeId} {w : World} {base : Nat} {v : Value} {qs : List Quad} (h : OwnQ e w base v qs) (j : Nat) (hj : v.ownBlock = some j) : base ≤ j := by
  rcases h.2 with ⟨hv, _⟩ | ⟨g, cap, cur, rfl, hb, _⟩
  · rw [hv] at hj; cases hj
  · simp [Value.ownBlock] at hj; omega
theorem OwnQ.shape {e : TypeId} {w : World} {base : Nat} {v : Value} {qs : List Quad} (h : OwnQ e w base v qs) : ∃ a c, v = .slice a qs.length c := by
  rcases h.2 with ⟨hv, hn⟩ | ⟨g, cap, cur, rfl, _⟩
  · exact ⟨none, 0, by rw [hv, hn]⟩
  · exact ⟨_, _, rfl⟩
theorem OwnQ.below {e : TypeId} {w w' : World} {base : Nat} {v : Value} {qs : List Quad} (h : OwnQ e w base v qs) (hg : w.grownBy w' v.ownBlock) (hb : base ≤ w.heap.size) : Below base w w' := Below.grown (Below.refl base w) hg hb fun j hj => h.block j hj

/-- append(l, more...) onto the call's own items: at the operation. -/
theorem op_appQ {P : Program} {e t : TypeId} {z : Value} {bytes : Nat} (hI : (P.info? e).map (fun i => (i.zero, i.size, i.bytes)) = some (some z, 4, bytes)) (hz : z.cells.size = 4) (ht : P.underlying t = some (.slice e)) (hby : bytes ≤ 64)
    {o : Oper} {a : Act} {w : World} {K : Act → World → Prop} {Q : Exit → Act → World → Prop} (s x : Operand)
    (ho : o.op = .call { callee := .builtin .append, args := #[s, x], argTypes := #[t, t] })
    (base : Nat) {v : Value} {qs news : List Quad} (hs : a.eval s = v) (hown : OwnQ e w base v qs) (g c : Nat) (hx : a.eval x = .slice (some ⟨g, 0, none⟩) news.length c)
    (hblk : ∀ i (h : i < news.length), ItmCells w g (i * 4) news[i].k news[i].n news[i].b news[i].l) (hone : ∀ i (h : i < news.length), news[i].b.oneCell' = true ∧ news[i].l.oneCell' = true)
    (hroom : qs.length + news.length ≤ 1000000) (hbase : base ≤ w.heap.size)
    (h : ∀ v' w', OwnQ e w' base v' (qs ++ news) → w.grownBy w' v.ownBlock → K (a.put o.dst v') w') : o.wp P a w K Q := by
  obtain ⟨i0, hi, hz0, hz1, hz2⟩ := info_parts hI
  refine wp_append_own w s x t ho base e i0 z 4 bytes ht hi hz0 hz1 hz2 hz (by decide) v qs.length _ hs hown ⟨g, 0, none⟩ news.length c (news.flatMap Quad.cells) hx (quads_length _) (fun j u hj => ?_) (fun u hu => ?_) (by unfold maxLen; omega) (by
      have := Nat.mul_le_mul hroom hby
      omega) hbase fun v' w' h1 h2 _ => h v' w' (by
        unfold OwnQ
        rw [List.length_append, List.flatMap_append]
        exact h1) h2
  · have hj2 : j < news.length * 4 := by
      have := (List.getElem?_eq_some_iff.1 hj).1
      rw [quads_length] at this
      exact this
    rw [Addr.add_lit, Nat.zero_add]
    obtain ⟨c0, c1, c2, c3⟩ := hblk (j / 4) (by omega)
    have hq := quads_at news (j / 4) (j % 4) (by omega) (by omega)
    rw [show j / 4 * 4 + j % 4 = j by omega, hj] at hq
    have hr : j % 4 = 0 ∨ j % 4 = 1 ∨ j % 4 = 2 ∨ j % 4 = 3 := by omega
    rw [show j = j / 4 * 4 + j % 4 by omega]
    rcases hr with hr | hr | hr | hr <;> rw [hr] at hq ⊢ <;> simp only [Quad.cells, List.getElem?_cons_zero, List.getElem?_cons_succ] at hq
    · rw [hq]; exact c0
    · rw [hq]; exact c1
    · rw [hq]; exact c2
    · rw [hq]; exact c3
  · obtain ⟨q, hq, hu⟩ := List.mem_flatMap.1 hu
    obtain ⟨i, hi, rfl⟩ := List.getElem_of_mem hq
    obtain ⟨o1, o2⟩ := hone i hi
    simp only [Quad.cells, List.mem_cons, List.not_mem_nil, or_false] at hu
    rcases hu with rfl | rfl | rfl | rfl
    · rfl
    · rfl
    · exact o1
    · exact o2

/-- The same at a step of a region that draws its order. -/
theorem step_appQ {P : Program} {e t : TypeId} {z : Value} {bytes : Nat} (hI : (P.info? e).map (fun i => (i.zero, i.size, i.bytes)) = some (some z, 4, bytes)) (hz : z.cells.size = 4) (ht : P.underlying t = some (.slice e)) (hby : bytes ≤ 64)
    {ops : Array Oper} {o : Oper} {a : Act} {w : World} {K : Act → World → Prop} {Q : Exit → Act → World → Prop} {E : Prop} (hgd : o.guard = none) (s x : Operand)
    (ho : o.op = .call { callee := .builtin .append, args := #[s, x], argTypes := #[t, t] })
    (base : Nat) {v : Value} {qs news : List Quad} (hs : a.eval s = v) (hown : OwnQ e w base v qs) (g c : Nat) (hx : a.eval x = .slice (some ⟨g, 0, none⟩) news.length c)
    (hblk : ∀ i (h : i < news.length), ItmCells w g (i * 4) news[i].k news[i].n news[i].b news[i].l) (hone : ∀ i (h : i < news.length), news[i].b.oneCell' = true ∧ news[i].l.oneCell' = true)
    (hroom : qs.length + news.length ≤ 1000000) (hbase : base ≤ w.heap.size)
    (h : ∀ v' w', OwnQ e w' base v' (qs ++ news) → w.grownBy w' v.ownBlock → K (a.put o.dst v') w') : if Region.wanted o (yielded ops a.tmps) = true then Oper.wp P o a w K Q else E := by
  have hw : Region.wanted o (yielded ops a.tmps) = true := by simp [Region.wanted, hgd]
  rw [if_pos hw]
  exact op_appQ hI hz ht hby s x ho base hs hown g c hx hblk hone hroom hbase h

theorem itm_new {w : World} {g : Nat} {k n : Int} {b l : Value} {t : TypeId} (hg : w.heap.size = g) : ItmCells (w.alloc (.cells #[.int .i64 k, .int .i64 n, b, l] t)) g 0 k n b l := by
  have h : Blk (w.alloc (.cells #[.int .i64 k, .int .i64 n, b, l] t)) g t #[.int .i64 k, .int .i64 n, b, l] := Blk.new hg rfl
  exact ⟨h.val rfl, h.val rfl, h.val rfl, h.val rfl⟩

theorem OwnQ.set {e : TypeId} {w : World} {base : Nat} {v : Value} {qs : List Quad} (h : OwnQ e w base v qs) {a : Addr} (ha : a.block < base) (x : Value) : OwnQ e (w.setCell a x) base v qs := by
  refine ⟨h.1, ?_⟩
  rcases h.2 with hn | ⟨g, cap, cur, rfl, hb, hg, rest⟩
  · exact .inl hn
  · exact .inr ⟨g, cap, cur, rfl, hb, by rw [Below.heap_setCell w a x g (by omega)]; exact hg, rest⟩
end Go.Sp
