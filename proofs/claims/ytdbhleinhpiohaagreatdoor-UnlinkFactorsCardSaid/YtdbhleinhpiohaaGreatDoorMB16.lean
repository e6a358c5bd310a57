/- The reference's SHA-256: joined, tagged, and the number of a digest. The reference's encoding: a number in bytes. The reference's encoding: integers, bytes and lists. The reference's challenge of a coin. The reference's challenge of a coin: the walk. -/
import Derived.Test.YtdbhleinhpiohaaGreatDoorMB14
import Derived.Test.YtdbhleinhpiohaaGreatDoorMB11
import Derived.Test.YtdbhleinhpiohaaGreatDoorMB13
import Derived.Test.YtdbhleinhpiohaaGreatDoorMB5
import Derived.Test.YtdbhleinhpiohaaGreatDoorMB2
import Derived.Test.YtdbhleinhpiohaaGreatDoorMB15
import Derived.Test.YtdbhleinhpiohaaGreatDoorMB12
namespace Go.Proofs.YtdbhleinhpiohaaGreatDoor
open Go.RowKit Go.Sp
set_option maxHeartbeats 4000000
set_option maxRecDepth 20000

/-- Bytes and the first so many of a digest. -/
def joinTo (h : Nat → Int) (xs : List Int) (i : Nat) : List Int := xs ++ (List.range i).map h
theorem joinTo_length (h : Nat → Int) (xs : List Int) (i : Nat) : (joinTo h xs i).length = xs.length + i := by simp [joinTo]
theorem joinTo_succ (h : Nat → Int) (xs : List Int) (i : Nat) : joinTo h xs i ++ [h i] = joinTo h xs (i + 1) := by
  unfold joinTo
  rw [List.range_succ, List.map_append, List.append_assoc]
  rfl

theorem rHJoin_any (v : Value) (xs : List Int) (h : Nat → Int) (w : World) (hv : SeqAt .u8 w v xs) (hl : xs.length ≤ 1099511627000) :
    Calls Tryz.prog 86 #[v, hashV h] w fun e w' => ∃ v', e = .returned v' ∧ OwnS 5 .u8 w' (w.heap.size + 1) v' (xs ++ hList h) ∧ Up w w' := by
  have hget := fun i (hi : i < 32) => arrK_get (k := .u8) (f := h) hi
  have HEnd : Hid (joinTo h xs 32 = xs ++ hList h) := hid rfl
  have HLn := hid (joinTo_length h xs)
  have HSn := hid (joinTo_succ h xs)
  have HZero : Hid ([] ++ xs = joinTo h xs 0) := hid (by simp [joinTo])
  have HV := hid hv
  obtain ⟨n, hn⟩ : ∃ n, xs.length = n := ⟨_, rfl⟩
  obtain ⟨va, vc, rfl, _, _⟩ := hv.shape
  rw [hn] at HV hl HLn
  rw [hn]
  unfold hashV
  generalize arrK .u8 h 32 = cs at *
  have HG := hid hget
  have HXN := hid hn
  clear hget hv hn
  go_enter Tryz.func86, Tryz.ntmps86
  have HB0 := hid ((Blk.new (w := w) (t := 31) (cs := cs) rfl rfl).alloc (.cells #[] 5))
  have hs1 : (w.alloc (.cells cs 31)).heap.size = w.heap.size + 1 := by simp
  have hE := own_empty (e := 5) (k := .u8) (base := w.heap.size + 1) (Blk.new (w := w.alloc (.cells cs 31)) (t := 5) (cs := #[]) hs1 rfl) (Nat.le_refl _)
  have hu2 := ((Up.refl w).alloc (.cells cs 31)).alloc (.cells #[] 5)
  have HS1 := hid hs1
  have HE := hid hE
  have HU2 := hid hu2
  clear hs1 hE hu2
  go_wp2_with (at_builtin; refine wp_app infoU8 Tryz.underlying73 (by omega) rfl _ _ rfl (w.heap.size + 1) (v := .slice (some ⟨w.heap.size + 1, 0, none⟩) 0 0) rfl rfl HE.out (HV.out.up HU2.out) (by have := HXN.out; simp; omega) (by simp) ?_; intro v3 w3 hO3 hg3)
  have hU3 := HU2.out.own HE.out hg3 (by omega)
  have hB3 := HB0.out.below (below_own HE.out hg3 (by simp)) (by omega)
  rw [HZero.out] at hO3
  obtain ⟨p3, k3, rfl, _, _⟩ := hO3.shape
  rw [HLn.out 0, Nat.add_zero] at hO3
  rw [HLn.out 0, Nat.add_zero]
  obtain ⟨o, ho⟩ : ∃ o, w.heap.size = o := ⟨_, rfl⟩
  rw [ho] at hO3 hB3
  rw [ho]
  have HOo := hid ho
  have HO3 := hid hO3
  have HB3 := hid hB3
  have HU3 := hid hU3
  clear ho hO3 hB3 hU3 hg3 HE HU2 HS1 HB0
  go_wp2_with fail
  go_loopw [5, 6] (fun vp vi wr => ∃ (i : Nat) (p : Option Addr) (c : Nat), i ≤ 32 ∧ vi = .int .i64 i ∧ vp = .slice p (n + i) c ∧ Hid (OwnS 5 .u8 wr (o + 1) (.slice p (n + i) c) (joinTo h xs i)) ∧ Hid (Blk wr o 31 cs) ∧ Hid (Up w wr)) (fun _ vi _ => 32 - (intOf vi).toNat)
  case atStart => exact ⟨0, _, _, by omega, rfl, rfl, HO3, HB3, HU3⟩
  case round =>
    clear HO3 HB3 HU3
    obtain ⟨i, p, c, hi, rfl, rfl, HO, HB, HU⟩ := hrel
    by_cases hlt : i < 32
    · have q1 := HB.out.val (HG.out i hlt)
      have HS := hid (HSn.out i)
      have HLi := hid (HLn.out i)
      have HLi1 := hid (HLn.out (i + 1))
      have hbs : o + 1 ≤ wr.heap.size := by have := HB.out.lt; omega
      generalize h i = x at *
      obtain ⟨m, hm⟩ : ∃ m, n + i = m := ⟨_, rfl⟩
      have HM := hid hm
      rw [hm] at HO HLi
      rw [hm]
      have hmn : m ≤ n + 32 := by omega
      clear hm
      go_wp2_with (at_builtin; refine wp_app infoU8 Tryz.underlying73 (by omega) rfl _ _ rfl (o + 1) rfl rfl (HO.out.up ((Up.refl wr).alloc _)) (seq_new _ _ _) (by have := HLi.out; simp; omega) (by simp; omega) ?_; intro v' w' hO' hg')
      have hU' := (HU.out.alloc _).own (HO.out.up ((Up.refl wr).alloc _)) hg' (by have := HOo.out; omega)
      have hB' := (HB.out.alloc _).below (below_own (HO.out.up ((Up.refl wr).alloc _)) hg' (by simp; omega)) (by omega)
      rw [HS.out] at hO'
      obtain ⟨p', k', rfl, _, _⟩ := hO'.shape
      rw [HLi1.out] at hO'
      rw [HLi1.out]
      have HO' := hid hO'
      have HU' := hid hU'
      have HB' := hid hB'
      clear hO' hU' hB' hg' HO HU HB
      go_wp2_with fail
      go_roundw
      case rel => exact ⟨i + 1, p', k', by omega, by go_num, rfl, HO', HB', HU'⟩
      case measure => simp [intOf]; omega
    · have hi32 : i = 32 := by omega
      have HO2 := hid HO.out
      rw [hi32, HEnd.out] at HO2
      rw [hi32]
      clear hi32 HO hlt hi
      go_wp2_with fail
      go_ret
      exact ⟨_, rfl, by rw [HOo.out]; exact HO2.out, HU.out⟩

theorem rTagged_any (s : ByteArray) (v : Value) (xs : List Int) (w : World) (hs1 : s.size ≤ 100) (hv : SeqAt .u8 w v xs) (hl : xs.length ≤ 1099511626000) (hB : ∀ x ∈ xs, 0 ≤ x ∧ x ≤ 255) :
    Calls Tryz.prog 65 #[.string s, v] w fun e w' => e = .returned (hashV (tagB (txt s) xs)) ∧ Up w w' := by
  have HV := hid hv
  have HTx := hid (txt_byt s)
  have HTl := hid (txt_length s)
  obtain ⟨h, hh⟩ : ∃ h, shaB (txt s) = h := ⟨_, rfl⟩
  have Hhb : Hid (∀ i, 0 ≤ h i ∧ h i ≤ 255) := hid (by rw [← hh]; exact shaB_range _)
  have HR : Hid (tagB (txt s) xs = shaB (hList h ++ hList h ++ xs)) := hid (by rw [tagB, hh])
  obtain ⟨R, hR⟩ : ∃ R, tagB (txt s) xs = R := ⟨_, rfl⟩
  rw [hR] at HR
  rw [hR]
  have HS1 := hid (fun w' (v' : Value) (hv' : SeqAt .u8 w' v' (txt s)) => rSum_any v' (txt s) w' hv' (by rw [txt_length]; omega) HTx.out)
  rw [hh] at HS1
  have HS2 := hid (fun w' (v' : Value) (hv' : SeqAt .u8 w' v' (hList h ++ hList h ++ xs)) => rSum_any v' _ w' hv' (by simp [hList_length]; omega) (by
    intro x hx
    simp only [List.mem_append] at hx
    rcases hx with (hx | hx) | hx
    · exact hList_byt Hhb.out x hx
    · exact hList_byt Hhb.out x hx
    · exact hB x hx))
  rw [← HR.out] at HS2
  have hcv := fun w' => run_bytes_of_string (P := Tryz.prog) w' 9 73 5 s Tryz.underlying9 Tryz.underlying73 Tryz.underlying5
  obtain ⟨n, hn⟩ : ∃ n, xs.length = n := ⟨_, rfl⟩
  have HN := hid hn
  obtain ⟨va, vc, rfl, _, _⟩ := hv.shape
  rw [hn] at HV hl
  rw [hn]
  clear hv hh hR hn hB
  go_enter Tryz.func65, Tryz.ntmps65
  go_wp2_with fail
  refine (HS1.out _ _ (seq_text_at s _ _ _ (by simp) cap_ge (cap_le (by omega)))).mono ?_
  rintro e w1 ⟨rfl, hU1⟩
  have hZ1 : Blk w1 w.heap.size 31 (arrK .u8 (fun _ => 0) 32) := (((Blk.new rfl zero32).alloc _).up (Up.refl _).drew).up hU1
  have hU1 := (((Up.refl w).alloc _).alloc _).drew.trans hU1
  obtain ⟨o, ho⟩ : ∃ o, w.heap.size = o := ⟨_, rfl⟩
  have HOo := hid ho
  rw [ho] at hZ1
  rw [ho]
  have l1 := hZ1.lt
  clear hcv ho HS1
  unfold hashV
  go_wp2_with (first | (refine wpList_store_rowTo rfl 31 _ _ rfl rfl _ _ rfl rfl 31 _ (heap_alloc_new _ _) (by rw [arrK_size]; kernel_rfl) (by rw [arrK_size]; rfl) arrK_one ?_; rw [World.setRow_alloc_new]))
  obtain ⟨g, hg⟩ : ∃ g, w1.heap.size = g := ⟨_, rfl⟩
  rw [hg]
  obtain ⟨w2, hw2⟩ : ∃ w2, w1.alloc (.cells (arrK .u8 h 32) 31) = w2 := ⟨_, rfl⟩
  have hG2 : Blk w2 g 31 (arrK .u8 h 32) := by rw [← hw2]; exact Blk.new hg rfl
  have hZ2 : Blk w2 o 31 (arrK .u8 (fun _ => 0) 32) := by rw [← hw2]; exact hZ1.alloc _
  have hU2 : Up w w2 := by rw [← hw2]; exact hU1.alloc _
  rw [hg] at l1
  rw [hw2]
  have HG := hid hG2
  have HZ := hid hZ2
  have HU := hid hU2
  have hsz := hG2.lt
  clear hw2 hZ1 hU1 hG2 hZ2 hU2 hg
  have HLn := hid (hList_length h)
  have hud := (Up.refl w2).drew
  refine region_E (fun w' => Blk w' g 31 (arrK .u8 h 32)) 7 (by kernel_rfl) (HG.out.up hud) fun hS => ?_
  refine anyE_take (i := 4) (v := ?_) 13 rfl rfl (by kernel_rfl) (by kernel_rfl) (by decide) (fun _ _ _ h => h) (by kernel_rfl) (by kernel_rfl) (.inl ⟨by rfl, fun u hu => ?_⟩) hS ?_
  rotate_left
  · (go_simp; first | done | with_reducible rfl)
  simp only [Act.put, List.setIfInBounds_toArray, List.set_cons_succ]
  refine anyE_take (i := 0) (v := .agg (arrK .u8 h 32).toList.toArray) 9 rfl rfl (by kernel_rfl) (by kernel_rfl) (by decide) (fun _ _ _ h => h) (by kernel_rfl) (by kernel_rfl) (yieldsIf_load_mid (by rfl) 31 _ rfl g 0 rfl (arrK .u8 h 32).toList _ (fun u hu => blk_range hu) Tryz.underlying31 rfl (by rw [Array.length_toList, arrK_size]; kernel_rfl)) hS ?_
  rw [Array.toArray_toList]
  simp only [Act.put, List.setIfInBounds_toArray, List.set_cons_succ]
  refine anyE_take (i := 2) (v := .agg (arrK .u8 h 32).toList.toArray) 11 rfl rfl (by kernel_rfl) (by kernel_rfl) (by decide) (fun _ _ _ h => h) (by kernel_rfl) (by kernel_rfl) (yieldsIf_load_mid (by rfl) 31 _ rfl g 0 rfl (arrK .u8 h 32).toList _ (fun u hu => blk_range hu) Tryz.underlying31 rfl (by rw [Array.length_toList, arrK_size]; kernel_rfl)) hS ?_
  rw [Array.toArray_toList]
  simp only [Act.put, List.setIfInBounds_toArray, List.set_cons_succ]
  refine anyE_one (i := 1) rfl (by kernel_rfl) rfl (fun K hK => ?_)
  go_simp
  refine (rHJoin_any _ [] h _ seq_none (by simp)).mono ?_
  rintro e w3 ⟨v3, rfl, hO3, hU3⟩
  dsimp only
  have hD3 := hud.trans hU3
  have hS3 := Blk.up hS hU3
  refine hK.out _ _ (.inr hS3) ?_
  clear hK
  refine anyE_one (i := 3) rfl (by kernel_rfl) rfl (fun K hK => ?_)
  go_simp
  refine (rHJoin_any _ _ h _ hO3.seq (by have := HLn.out; simp; omega)).mono ?_
  rintro e w4 ⟨v4, rfl, hO4, hU4⟩
  dsimp only
  have hD4 := hD3.trans hU4
  have hS4 := Blk.up hS3 hU4
  have hO4 := hO4.mono (base' := w2.heap.size) (by have := hD3.size; omega)
  refine hK.out _ _ (.inr hS4) ?_
  clear hK
  refine anyE_one (i := 5) rfl (by kernel_rfl) rfl (fun K hK => ?_)
  refine op_app infoU8 Tryz.underlying73 (by omega) _ _ rfl w2.heap.size rfl rfl hO4 (HV.out.up (HU.out.trans hD4)) (by have := HLn.out; have := HN.out; simp; omega) hD4.size ?_
  intro v5 w5 hO5 hg5
  have hB5 := below_own hO4 hg5 hD4.size
  have hS5 := hS4.below hB5 hsz
  have hZ5 := (HZ.out.up hD4).below hB5 HZ.out.lt
  have hU5 := (HU.out.trans hD4).own hO4 hg5 HU.out.size
  simp only [Act.put, List.setIfInBounds_toArray]
  refine hK.out _ _ (.inr hS5) ?_
  clear hK
  refine anyE_one (i := 6) rfl (by kernel_rfl) rfl (fun K hK => ?_)
  go_simp
  refine (HS2.out _ _ hO5.seq).mono ?_
  rintro e w6 ⟨rfl, hu6⟩
  dsimp only
  have hZ6 := hZ5.up hu6
  have hU6 := hU5.trans hu6
  refine hK.out _ _ (.inr (Blk.up hS5 hu6)) ?_
  clear hK
  refine anyE_one (i := 7) rfl (by kernel_rfl) rfl (fun K hK => ?_)
  refine op_store_row 31 _ _ rfl rfl o (arrK .u8 R 32) rfl rfl 31 (arrK .u8 (fun _ => 0) 32) hZ6 (by rw [arrK_size]; kernel_rfl) (by rw [arrK_size, arrK_size]) arrK_one ?_
  refine hK.out _ _ (.inl rfl) (anyE_done (by kernel_rfl) ?_ _)
  clear hK
  go_wp2
  refine bodyPost_ret (v := .agg (arrK .u8 R 32)) (results_cell_row rfl _ _ o 31 _ (0, 0) _ (by rfl) (hZ6.row _) Tryz.underlying31 rfl (by rw [arrK_size]; kernel_rfl)) rfl ⟨rfl, hU6.setRow (by have := HOo.out; omega) _⟩

theorem rNumber_ok (h : Nat → Int) (m : Int) (w : World) (hB : Byt h) (m0 : 1 ≤ m) (m1 : m < 2305843009213693952) :
    Calls Tryz.prog 64 #[hashV h, .int .i64 m] w fun e w' => e = .returned (.int .i64 (numH h m)) ∧ Up w w' := by
  have hget := fun i (hi : i < 32) => arrK_get (k := .u8) (f := h) hi
  unfold hashV
  generalize arrK .u8 h 32 = cs at *
  have HG := hid hget
  have HB := hid hB
  have HN : Hid (numH h m = numB h m 16) := hid rfl
  clear hget hB
  have dm : (m == 0) = false := by simp; omega
  have dm2 : m ≠ 0 := by omega
  go_enter Tryz.func64, Tryz.ntmps64
  go_wp2_with fail
  have HB0 := hid (Blk.new (w := w) (t := 31) (cs := cs) rfl rfl)
  have HU0 := hid ((Up.refl w).alloc (.cells cs 31))
  obtain ⟨o, ho⟩ : ∃ o, w.heap.size = o := ⟨_, rfl⟩
  rw [ho] at HB0
  rw [ho]
  clear ho
  go_loopw [5, 6] (fun vx vi wr => ∃ i : Nat, i ≤ 16 ∧ vi = .int .i64 i ∧ vx = .int .i64 (numB h m i) ∧ Hid (Blk wr o 31 cs) ∧ Hid (Up w wr)) (fun _ vi _ => 16 - (intOf vi).toNat)
  case atStart => exact ⟨0, by omega, rfl, rfl, HB0, HU0⟩
  case round =>
    clear HB0 HU0
    obtain ⟨i, hi, rfl, rfl, HBk, HU⟩ := hrel
    by_cases hlt : i < 16
    · have q1 := cupF (HBk.out.val (HG.out i (by omega)))
      have r3 := HB.out i
      obtain ⟨x0, x1⟩ := numB_range (h := h) (m := m) (by omega) i
      have HS : Hid (numB h m (i + 1) = (numB h m i * 256 + h i) % m) := hid rfl
      generalize numB h m i = x at *
      generalize h i = c at *
      have hc0 := r3.1
      have hc1 := r3.2
      have di : decide ((i : Int) < 16) = true := by simp; omega
      have di2 : (i : Int) < 32 := by omega
      clear r3
      have htm : (256 : Int).tmod m = 256 % m := Int.tmod_eq_emod_of_nonneg (by omega)
      have e0 := Int.emod_nonneg 256 dm2
      have e1 := Int.emod_lt_of_pos 256 (show 0 < m by omega)
      have HR := hid (num_ref x c m)
      have p0 := Int.emod_nonneg (x * (256 % m)) dm2
      have p1 := Int.emod_lt_of_pos (x * (256 % m)) (show 0 < m by omega)
      have HM := hid (fun w' => (rMul_ok x (256 % m) m w' x0 x1 e0 e1 m1).mono fun e u h => (⟨h.1, by rw [← h.2]; exact Up.refl _⟩ : e = .returned (.int .i64 (x * (256 % m) % m)) ∧ Up w' u))
      have HD := hid (fun w' => (rReduce_ok (x * (256 % m) % m + c) m w' (by omega) (by omega) m0 m1).mono fun e u h => (⟨h.1, by rw [← h.2]; exact Up.refl _⟩ : e = .returned (.int .i64 ((x * (256 % m) % m + c) % m)) ∧ Up w' u))
      rw [HR.out] at HD
      generalize x * (256 % m) % m = z at *
      generalize 256 % m = y at *
      go_wp2_with fail
      refine wp_region_up (by kernel_rfl) (by kernel_rfl) ?_
      repeat (go_big_quiet_step ((first | (exact Calls.up_of (HM.out _)) | (exact Calls.up_of (HD.out _)))))
      refine wpQuiet_nil ?_
      rintro _ ⟨p, rfl⟩
      go_wp2_with fail
      go_roundw
      case rel => exact ⟨i + 1, by omega, by go_num, by rw [HS.out], hid (HBk.out.up p.up), hid (HU.out.trans p.up)⟩
      case measure => simp [intOf]; omega
    · obtain rfl : i = 16 := by omega
      go_wp2
      go_ret
      exact ⟨by rw [HN.out]; rfl, HU.out⟩
end Go.Proofs.YtdbhleinhpiohaaGreatDoor
namespace Go.Proofs.YtdbhleinhpiohaaGreatDoor
open Go.RowKit Go.Sp
set_option maxHeartbeats 4000000
set_option maxRecDepth 20000

/-- The last so many are filled. -/
def bfill (f : Nat → Int) (n s : Nat) : Nat → Int := fun j => if n ≤ j + s then f j else 0
theorem bfill_zero (k : IntKind) (f : Nat → Int) (n : Nat) : arrK k (fun _ => 0) n = arrK k (bfill f n 0) n := arrK_congr fun j hj => by
  rw [bfill, if_neg (by omega)]
theorem bfill_all (k : IntKind) (f : Nat → Int) (n : Nat) : arrK k (bfill f n n) n = arrK k f n := arrK_congr fun j _ => by
  rw [bfill, if_pos (by omega)]
theorem bfill_put (k : IntKind) (f : Nat → Int) (n s i : Nat) (hi : i + 1 + s = n) : (arrK k (bfill f n s) n).setIfInBounds i (.int k (f i)) = arrK k (bfill f n (s + 1)) n := by
  rw [arrK_set]
  refine arrK_congr fun t _ => ?_
  unfold bfill
  by_cases h : t = i
  · subst h
    rw [if_pos rfl, if_pos (by omega)]
  · have e1 : (n ≤ t + (s + 1)) ↔ (n ≤ t + s) := by omega
    simp [h, e1]
theorem bfill_at {k : IntKind} {f : Nat → Int} {n s i : Nat} (hi : i + 1 + s = n) : (arrK k (bfill f n s) n)[i]? = some (.int k 0) := by
  rw [arrK_get (by omega), bfill, if_neg (by omega)]

theorem div_256 (n : Int) (s : Nat) : n / 2 ^ (8 * s) / 256 = n / 2 ^ (8 * (s + 1)) := by
  rw [show 8 * (s + 1) = 8 * s + 8 by omega, Int.pow_add, ← Int.ediv_ediv_of_nonneg (Int.le_of_lt (Int.pow_pos (by decide)))]
  rfl

theorem renc_number (n : Int) (size : Nat) (w : World) (h0 : 0 ≤ n) (h1 : n ≤ 18446744073709551615) (hs1 : 1 ≤ size) (hs8 : size ≤ 8)
    (hmk : ∀ W, (Instr.makeSlice 73 (.int .i64 size) (.int .i64 size)).run Tryz.prog W = .ok (.slice (some ⟨W.heap.size, 0, none⟩) size size) (W.alloc (.cells (arrK .u8 (fun _ => 0) size) 5))) :
    Calls Tryz.prog 87 #[.int .u64 n, .int .i64 size] w fun e w' => ∃ v, e = .returned v ∧ OwnS 5 .u8 w' w.heap.size v (beL size n) ∧ Up w w' := by
  obtain ⟨f, hf⟩ : ∃ f : Nat → Int, (fun i => n / 2 ^ (8 * (size - 1 - i)) % 256) = f := ⟨_, rfl⟩
  have HL : Hid (beL size n = (List.range size).map f) := hid (by rw [← hf]; rfl)
  have HF := hid hf
  have HX : Hid (n / 2 ^ (8 * 0) = n) := hid (by simp)
  have HDiv := hid (div_256 n)
  have HNn : Hid (∀ s, 0 ≤ n / 2 ^ (8 * s) ∧ n / 2 ^ (8 * s) ≤ n) := hid fun s => ⟨Int.ediv_nonneg h0 (Int.le_of_lt (Int.pow_pos (by decide))), Int.ediv_le_self _ h0⟩
  clear hf
  go_enter Tryz.func87, Tryz.ntmps87
  go_wp2_with fail
  clear hmk
  obtain ⟨o, ho⟩ : ∃ o, w.heap.size = o := ⟨_, rfl⟩
  rw [ho]
  have hb0 : Blk (w.alloc (.cells (arrK .u8 (fun _ => 0) size) 5)) o 5 (arrK .u8 (bfill f size 0) size) := Blk.new ho (bfill_zero _ _ _)
  go_loopw [0, 6] (fun vn vi wr => ∃ s : Nat, s ≤ size ∧ vi = .int .i64 ((size : Int) - 1 - s) ∧ vn = .int .u64 (n / 2 ^ (8 * s)) ∧ Hid (Blk wr o 5 (arrK .u8 (bfill f size s) size)) ∧ Hid (Up w wr)) (fun _ vi _ => (intOf vi + 1).toNat)
  case atStart => exact ⟨0, by omega, by simp, by rw [HX.out], hid hb0, hid ((Up.refl w).alloc _)⟩
  case round =>
    have HOo := hid ho
    clear ho hb0
    obtain ⟨s, hs, rfl, rfl, HB, HU⟩ := hrel
    by_cases hlt : s < size
    · obtain ⟨i, hi⟩ : ∃ i : Nat, i + 1 + s = size := ⟨size - 1 - s, by omega⟩
      have q1 := HB.out.val (bfill_at hi)
      have q2 := HB.out.thawed i
      have HP := hid (bfill_put .u8 f size s i hi)
      have HFI : Hid (f i = n / 2 ^ (8 * s) % 256) := hid (by rw [← HF.out]; show n / 2 ^ (8 * (size - 1 - i)) % 256 = _; rw [show size - 1 - i = s by omega])
      have HD := hid (HDiv.out s)
      obtain ⟨n0, n1⟩ := HNn.out s
      rw [show (size : Int) - 1 - s = i by omega]
      generalize n / 2 ^ (8 * s) = x at *
      go_wp2_with fail
      go_roundw
      case rel => exact ⟨s + 1, by omega, congrArg (Value.int .i64) (by omega), by rw [← HD.out], hid (by rw [← HP.out, HFI.out]; exact HB.out.wrote _ _), hid (HU.out.setCell (by have := HOo.out; show w.heap.size ≤ o; omega) _)⟩
      case measure => simp [intOf]
    · have hss : s = size := by omega
      have HB2 := hid HB.out
      rw [hss, bfill_all] at HB2
      rw [show (size : Int) - 1 - s = -1 by omega]
      clear HB hss hlt hs
      go_wp2
      go_ret
      exact ⟨_, rfl, by rw [HL.out]; exact HB2.out.own (by have := HOo.out; omega) (by omega), HU.out⟩

theorem renc_four (n : Int) (w : World) (h0 : 0 ≤ n) (h1 : n ≤ 18446744073709551615) :
    Calls Tryz.prog 87 #[.int .u64 n, .int .i64 4] w fun e w' => ∃ v, e = .returned v ∧ OwnS 5 .u8 w' w.heap.size v (beL 4 n) ∧ Up w w' :=
  renc_number n 4 w h0 h1 (by omega) (by omega) fun _ => by kernel_rfl
theorem renc_eight (n : Int) (w : World) (h0 : 0 ≤ n) (h1 : n ≤ 18446744073709551615) :
    Calls Tryz.prog 87 #[.int .u64 n, .int .i64 8] w fun e w' => ∃ v, e = .returned v ∧ OwnS 5 .u8 w' w.heap.size v (beL 8 n) ∧ Up w w' :=
  renc_number n 8 w h0 h1 (by omega) (by omega) fun _ => by kernel_rfl
end Go.Proofs.YtdbhleinhpiohaaGreatDoor
namespace Go.Proofs.YtdbhleinhpiohaaGreatDoor
open Go.RowKit Go.Sp
set_option maxHeartbeats 4000000
set_option maxRecDepth 20000

theorem own_one {w : World} {base g : Nat} (x : Int) (hg : w.heap.size = g) (hb : base ≤ g) : OwnS 5 .u8 (w.alloc (.cells #[.int .u8 x] 5)) base (.slice (some ⟨g, 0, none⟩) 1 1) [x] := by
  have h : Blk (w.alloc (.cells #[.int .u8 x] 5)) g 5 (arrK .u8 (fun _ => x) 1) := Blk.new hg (by kernel_rfl)
  exact h.own hb (by omega)

/-- What the reference's Encode returns. -/
def REnc (es : List Int) (w : World) (e : Ending) (w' : World) : Prop := ∃ v, e = .returned v ∧ OwnS 5 .u8 w' w.heap.size v es ∧ Up w w'

theorem renc_int (n : Int) (w : World) : Calls Tryz.prog 66 #[itm 1 n nilS nilS] w (REnc (encInt n) w) := by
  have hr : 0 ≤ IntKind.u64.wrap n ∧ IntKind.u64.wrap n < 18446744073709551616 := by rw [IntKind.wrap_u64]; omega
  have HNum := hid (fun w' => renc_eight (IntKind.u64.wrap n) w' hr.1 (by omega))
  have HE : Hid (encInt n = 1 :: beL 8 (IntKind.u64.wrap n)) := hid rfl
  clear hr
  go_enter Tryz.func66, Tryz.ntmps66
  go_wp2_with fail
  generalize IntKind.u64.wrap n = N at *
  refine (HNum.out _).mono ?_
  rintro e w2 ⟨v2, rfl, hO2, hU2⟩
  have hO1 := (own_one (w := w.alloc (.cells #[.int .i64 1, .int .i64 n, nilS, nilS] 76)) (g := w.heap.size + 1) (base := w.heap.size) 1 (by simp) (by omega)).up hU2
  have hU2 := (((Up.refl w).alloc _).alloc _).trans hU2
  go_wp2_with (at_builtin; refine wp_app infoU8 Tryz.underlying73 (by omega) rfl _ _ rfl w.heap.size rfl rfl hO1 hO2.seq (by simp [beL_length]) hU2.size ?_; intro v3 w3 hO3 hg3; have hU3 := hU2.own hO1 hg3 (Nat.le_refl _))
  go_ret
  exact ⟨_, rfl, by rw [HE.out]; exact hO3, hU3⟩

theorem renc_list (l : Value) (ess : List (List Int)) (R : Int → Int → Value → Value → List Int → Prop) (w : World) (hr : ItmRow R w l ess) (hl : ess.length ≤ 1000) (ht : ess.flatten.length ≤ 1000000000)
    (hsh : ∀ k n b l es, R k n b l es → (∃ a m c, b = .slice a m c) ∧ ∃ a m c, l = .slice a m c)
    (hf : ∀ k n b l es, R k n b l es → es.length ≤ 1000000000 → ∀ w', Up w w' → Calls Tryz.prog 66 #[itm k n b l] w' (REnc es w')) :
    Calls Tryz.prog 66 #[itm 3 0 nilS l] w (REnc (encList ess) w) := by
  have HF := hid hf
  have HSh := hid hsh
  obtain ⟨a, cap, rfl, hc1, hc2, _, hi⟩ := hr
  obtain ⟨q, hq⟩ : ∃ q, ess.length = q := ⟨_, rfl⟩
  have HQ := hid hq
  have HT := hid ht
  rw [hq] at hl hc1 hi
  rw [hq]
  have HI := hid hi
  have HE : Hid (encList ess = 3 :: (beL 4 q ++ ess.flatten)) := hid (by rw [encList, hq])
  have hwr : IntKind.u64.wrap (q : Int) = (q : Int) := by rw [IntKind.wrap_u64]; omega
  have HNum := hid (fun w' => renc_four q w' (by omega) (by omega))
  clear hq hi hf hsh ht
  go_enter Tryz.func66, Tryz.ntmps66
  go_wp2_with fail
  refine (HNum.out _).mono ?_
  rintro e w2 ⟨v2, rfl, hO2, hU2⟩
  have hX2 : Blk w2 w.heap.size 76 #[.int .i64 3, .int .i64 0, nilS, .slice a q cap] := ((Blk.new rfl rfl).alloc _).up hU2
  have hO1 := (own_one (w := w.alloc (.cells #[.int .i64 3, .int .i64 0, nilS, .slice a q cap] 76)) (g := w.heap.size + 1) (base := w.heap.size + 1) 3 (by simp) (by omega)).up hU2
  have hU2 := (((Up.refl w).alloc _).alloc _).trans hU2
  have l2 := hX2.lt
  go_wp2_with (at_builtin; refine wp_app infoU8 Tryz.underlying73 (by omega) rfl _ _ rfl (w.heap.size + 1) rfl rfl hO1 hO2.seq (by simp [beL_length]) (by omega) ?_; intro v3 w3 hO3 hg3; have hU3 := hU2.own hO1 hg3 (by omega); have hX3 := hX2.below (below_own hO1 hg3 (by omega)) (by omega))
  obtain ⟨g, hg⟩ : ∃ g, w.heap.size = g := ⟨_, rfl⟩
  have HG := hid hg
  have HO3 : Hid (OwnS 5 .u8 w3 (g + 1) v3 (3 :: (beL 4 q ++ (ess.take 0).flatten))) := hid (by rw [← hg]; simpa using hO3)
  rw [hg] at hX3
  rw [hg]
  have HX3 := hid hX3
  have HU3 := hid hU3
  clear hO3 hX3 hU3 hg hg3 hO1 hO2 hX2 hU2 l2
  go_loopw [3, 4] (fun vp vi wr => ∃ i : Nat, i ≤ q ∧ vi = .int .i64 i ∧ Hid (OwnS 5 .u8 wr (g + 1) vp (3 :: (beL 4 q ++ (ess.take i).flatten))) ∧ Hid (Blk wr g 76 #[.int .i64 3, .int .i64 0, nilS, .slice a q cap]) ∧ Hid (Up w wr)) (fun _ vi _ => q - (intOf vi).toNat)
  case atStart => exact ⟨0, by omega, rfl, HO3, HX3, HU3⟩
  case round =>
    clear HO3 HX3 HU3
    obtain ⟨i, hiq, rfl, HO, HX, HU⟩ := hrel
    have q1 := HX.out.val (i := 3) rfl
    by_cases hlt : i < q
    · obtain ⟨b, off, k, n, vb, vl, rfl, hc, hr⟩ := HI.out i hlt
      obtain ⟨c0, c1, c2, c3⟩ := hc.up HU.out
      obtain ⟨⟨ba, bn, bc, rfl⟩, la, ln, lc, rfl⟩ := HSh.out _ _ _ _ _ hr
      have hle := flatten_at_le (ess := ess) (i := i) (by rw [HQ.out]; exact hlt)
      have HC := hid (fun w' hU => HF.out k n _ _ _ hr (by have := HT.out; omega) w' hU)
      have HN : Hid (3 :: (beL 4 q ++ (ess.take (i + 1)).flatten) = 3 :: (beL 4 q ++ (ess.take i).flatten) ++ ess.getD i []) := hid (by rw [flatten_take (by rw [HQ.out]; exact hlt)]; simp)
      have HLe : Hid ((3 :: (beL 4 q ++ (ess.take i).flatten)).length + (ess.getD i []).length ≤ 17592186044416) := hid (by have := HT.out; simp [beL_length] at *; omega)
      have hz := HX.out.lt
      generalize ess.getD i [] = es at *
      generalize 3 :: (beL 4 q ++ (ess.take i).flatten) = ys at *
      have z1 : (i : Int) < q := by omega
      have z2 : i * 4 + 4 ≤ cap * 4 := by omega
      clear hc hr hle
      go_wp2_with fail
      refine (HC.out _ HU.out).mono ?_
      rintro e w4 ⟨v4, rfl, hO4, hU4⟩
      have hw4 : g + 1 ≤ w4.heap.size := by have := hU4.size; omega
      go_wp2_with (at_builtin; refine wp_app infoU8 Tryz.underlying73 (by omega) rfl _ _ rfl (g + 1) rfl rfl (HO.out.up hU4) hO4.seq HLe.out hw4 ?_; intro v5 w5 hO5 hg5)
      have HU5 := hid ((HU.out.trans hU4).own (HO.out.up hU4) hg5 (by have := HG.out; omega))
      have HX5 := hid ((HX.out.up hU4).below (below_own (HO.out.up hU4) hg5 hw4) (by omega))
      rw [← HN.out] at hO5
      have HO5 := hid hO5
      clear hO5 hg5 hO4 hU4 c0 c1 c2 c3
      go_roundw
      case rel => exact ⟨i + 1, by omega, by go_num, HO5, HX5, HU5⟩
      case measure => simp [intOf]; omega
    · have HE2 : Hid (OwnS 5 .u8 wr (g + 1) u3 (encList ess)) := hid (by
        rw [HE.out]
        have := HO.out
        rw [List.take_of_length_le (by rw [HQ.out]; omega)] at this
        exact this)
      have z1 : decide ((i : Int) < q) = false := by simpa using hlt
      go_wp2
      go_ret
      exact ⟨_, rfl, by rw [HG.out]; exact HE2.out.mono (by omega), HU.out⟩

theorem renc_bytes (b : Value) (bs : List Int) (w : World) (hs : SeqAt .u8 w b bs) (hl : bs.length ≤ 1000000) :
    Calls Tryz.prog 66 #[itm 2 0 b nilS] w (REnc (encBytes bs) w) := by
  have HS := hid hs
  obtain ⟨pb, cb, rfl, _, _⟩ := hs.shape
  obtain ⟨nb, hnb⟩ : ∃ nb, bs.length = nb := ⟨_, rfl⟩
  have HNb := hid hnb
  rw [hnb] at HS hl
  rw [hnb]
  have HE : Hid (encBytes bs = [2] ++ beL 4 nb ++ bs) := hid (by rw [encBytes, hnb]; simp)
  have HNum := hid (fun w' => renc_four nb w' (by omega) (by omega))
  have hwr : IntKind.u64.wrap (nb : Int) = (nb : Int) := by rw [IntKind.wrap_u64]; omega
  clear hs hnb
  go_enter Tryz.func66, Tryz.ntmps66
  go_wp2_with fail
  obtain ⟨g, hg⟩ : ∃ g, w.heap.size = g := ⟨_, rfl⟩
  have HG := hid hg
  obtain ⟨w1, hw1⟩ : ∃ w1, w.alloc (.cells #[.int .i64 2, .int .i64 0, .slice pb nb cb, nilS] 76) = w1 := ⟨_, rfl⟩
  have HX : Hid (Blk w1 g 76 #[.int .i64 2, .int .i64 0, .slice pb nb cb, nilS]) := hid (by rw [← hw1]; exact Blk.new hg rfl)
  have HU1 : Hid (Up w w1) := hid (by rw [← hw1]; exact (Up.refl w).alloc _)
  rw [hg]
  rw [hw1]
  clear hw1 hg
  have hS0 : w1.cell? ⟨g, 2, none⟩ = some (.slice pb nb cb) := HX.out.val (i := 2) rfl
  have hsz := HX.out.lt
  have HL1 : Hid (([2] : List Int).length + (beL 4 nb).length ≤ 17592186044416) := hid (by rw [beL_length]; decide)
  have HL2 : Hid ((([2] : List Int) ++ beL 4 nb).length + bs.length ≤ 17592186044416) := hid (by rw [List.length_append, beL_length, HNb.out]; show 1 + 4 + nb ≤ _; omega)
  go_region_held3 (fun w' => w'.cell? ⟨g, 2, none⟩ = some (.slice pb nb cb)) (first | assumption | exact cup hU4 (HX.out.val (i := 2) rfl) | exact cup hU3 (HX.out.val (i := 2) rfl) | exact cup (hD2.alloc _) (HX.out.val (i := 2) rfl) | exact cup hD2 (HX.out.val (i := 2) rfl) | exact cup (Up.refl _).drew (by assumption) | exact cup ((Up.refl _).alloc _) (by assumption) | exact cup ((Up.refl w1).alloc _).drew (HX.out.val (i := 2) rfl) | fail "keep") (first
    | (go_at_call 87; refine (HNum.out _).mono ?_; rintro e w2 ⟨v2, rfl, hO2, hU2⟩; have hD2 := Up.trans (by first | exact ((Up.refl w1).alloc (.cells #[.int .u8 2] 5)).drew | exact (Up.refl w1).drew.alloc (.cells #[.int .u8 2] 5) | exact (Up.refl w1).alloc (.cells #[.int .u8 2] 5) | exact (Up.refl w1).drew | exact Up.refl w1 : Up w1 _) hU2; have hz2 := hD2.size)
    | (refine step_app infoU8 Tryz.underlying73 (by omega) (by rfl) _ _ (by rfl) w1.heap.size (by rfl) (by rfl) ((own_one (w := w1) (base := w1.heap.size) 2 rfl (Nat.le_refl _)).up ((Up.refl _).drew.trans hU2)) hO2.seq HL1.out hz2 ?_; intro v3 w3 hO3 hg3; have hU3 := hD2.own ((own_one (w := w1) (base := w1.heap.size) 2 rfl (Nat.le_refl _)).up ((Up.refl _).drew.trans hU2)) hg3 (Nat.le_refl _); have hz3 := hU3.size)
    | (refine step_app infoU8 Tryz.underlying73 (by omega) (by rfl) _ _ (by rfl) w1.heap.size (by rfl) (by rfl) (own_one (w := w2) (base := w1.heap.size) 2 rfl hz2) (hO2.seq.up ((Up.refl w2).alloc _)) HL1.out (hD2.alloc _).size ?_; intro v3 w3 hO3 hg3; have hU3 := (hD2.alloc (.cells #[.int .u8 2] 5)).own (own_one (w := w2) (base := w1.heap.size) 2 rfl hz2) hg3 (Nat.le_refl _); have hz3 := hU3.size)
    | (refine step_app infoU8 Tryz.underlying73 (by omega) (by rfl) _ _ (by rfl) w1.heap.size (by rfl) (by rfl) hO3 (HS.out.up (HU1.out.trans hU3)) HL2.out hz3 ?_; intro v4 w4 hO4 hg4; have hU4 := hU3.own hO3 hg4 (Nat.le_refl _))
    | fail "arm")
  all_goals
    rw [← HE.out] at hO4
    try go_wp2
    go_ret
    exact ⟨_, rfl, hO4.mono (by have := HG.out; omega), HU1.out.trans hU4⟩

theorem renc_ok : ∀ (d : Nat) (k n : Int) (b l : Value) (es : List Int) (w : World), ItmAt w d k n b l es → es.length ≤ 1000000000 → Calls Tryz.prog 66 #[itm k n b l] w (REnc es w)
  | 0, _, n, _, _, _, w, .inl ⟨rfl, rfl, rfl, rfl⟩, _ => renc_int n w
  | 0, _, _, b, _, _, w, .inr ⟨rfl, rfl, rfl, bs, h1, h2, _, rfl⟩, _ => renc_bytes b bs w h1 h2
  | _ + 1, _, n, _, _, _, w, .inl (.inl ⟨rfl, rfl, rfl, rfl⟩), _ => renc_int n w
  | _ + 1, _, _, b, _, _, w, .inl (.inr ⟨rfl, rfl, rfl, bs, h1, h2, _, rfl⟩), _ => renc_bytes b bs w h1 h2
  | d + 1, _, _, _, l, _, w, .inr ⟨rfl, rfl, rfl, ess, h4, h5, rfl⟩, hl => renc_list l ess _ w h5 h4 (by rw [encList_length] at hl; omega) (fun _ _ _ _ _ h => itm_shape h) fun k n b l es h he w' hU => renc_ok d k n b l es w' (h.up hU) he
end Go.Proofs.YtdbhleinhpiohaaGreatDoor
namespace Go.Proofs.YtdbhleinhpiohaaGreatDoor
open Go.RowKit Go.Sp
set_option maxHeartbeats 4000000
set_option maxRecDepth 20000

theorem rInteger_any (n : Int) (w : World) : Calls Tryz.prog 63 #[.int .i64 n] w fun e w' => e = .returned (itm 1 n nilS nilS) ∧ Up w w' := by
  go_enter Tryz.func63, Tryz.ntmps63
  go_wp2
  exact bodyPost_ret (v := itm 1 n nilS nilS) (by simp [results, Tryz.results63, go_sem]) rfl ⟨rfl, (Up.refl w).alloc _⟩

/-- The reference's six numbers of bases, in a block of their own. -/
theorem rNumbers_any (P Q G A B C : Int) (w : World) :
    Calls Tryz.prog 62 #[bas P Q G A B C] w fun e w' => ∃ g, e = .returned (.slice (some ⟨g, 0, none⟩) 6 6) ∧ Blk w' g 3 #[.int .i64 P, .int .i64 Q, .int .i64 G, .int .i64 A, .int .i64 B, .int .i64 C] ∧ Up w w' := by
  go_enter Tryz.func62, Tryz.ntmps62
  go_wp2
  go_ret
  exact ⟨_, rfl, Blk.new (by simp) rfl, ((Up.refl w).alloc _).alloc _⟩
end Go.Proofs.YtdbhleinhpiohaaGreatDoor
namespace Go.Proofs.YtdbhleinhpiohaaGreatDoor
open Go.RowKit Go.Sp
set_option maxHeartbeats 4000000
set_option maxRecDepth 20000

theorem ownsRow_set {w : World} {base e size n : Nat} {v : Value} {us : List Value} (h : w.ownsRow base e size v n us) {a : Addr} (ha : a.block < base) (x : Value) : (w.setCell a x).ownsRow base e size v n us := by
  refine ⟨h.1, ?_⟩
  rcases h.2 with hn | ⟨g, cap, cur, rfl, hb, hg, rest⟩
  · exact .inl hn
  · exact .inr ⟨g, cap, cur, rfl, hb, by rw [Below.heap_setCell w a x g (by omega)]; exact hg, rest⟩
theorem OwnS.set {e : TypeId} {k : IntKind} {w : World} {base : Nat} {v : Value} {xs : List Int} (h : OwnS e k w base v xs) {a : Addr} (ha : a.block < base) (x : Value) : OwnS e k (w.setCell a x) base v xs := ownsRow_set h ha x
/-- The items' block is there. -/
theorem OwnQ.blockLt {e : TypeId} {w : World} {base : Nat} {v : Value} {qs : List Quad} (h : OwnQ e w base v qs) (j : Nat) (hj : v.ownBlock = some j) : j < w.heap.size := by
  rcases h.2 with ⟨hv, _⟩ | ⟨g, cap, cur, rfl, hb, hg, _⟩
  · rw [hv] at hj; cases hj
  · simp [Value.ownBlock] at hj
    subst hj
    exact (Array.getElem?_eq_some_iff.1 hg).1

/-- What the first loop's region reads. -/
def RcS (L gn i : Nat) (ad : Option Addr) (cp : Nat) (ns : Array Value) (w : World) : Prop :=
  Blk w L 76 #[.int .i64 3, .int .i64 0, nilS, .slice ad i cp] ∧ Blk w gn 3 ns
theorem RcS.up {L gn i : Nat} {ad : Option Addr} {cp : Nat} {ns : Array Value} {w w' : World} (h : RcS L gn i ad cp ns w) (hU : Up w w') : RcS L gn i ad cp ns w' := ⟨h.1.up hU, h.2.up hU⟩
theorem RcS.below {L gn i B : Nat} {ad : Option Addr} {cp : Nat} {ns : Array Value} {w w' : World} (h : RcS L gn i ad cp ns w) (hb : Below B w w') (h1 : L < B) (h2 : gn < B) : RcS L gn i ad cp ns w' := ⟨h.1.below hb h1, h.2.below hb h2⟩
theorem RcS.cells {L gn i : Nat} {ad : Option Addr} {cp : Nat} {ns : Array Value} {w : World} (h : RcS L gn i ad cp ns w) : w.cell? ⟨L, 3, none⟩ = some (.slice ad i cp) ∧ w.cell? ⟨gn, i, none⟩ = ns[i]? := ⟨h.1.val rfl, h.2.read i⟩

/-- What the second loop's region reads. -/
def RbS (b o i : Nat) (ad : Option Addr) (cp : Nat) (cs : Array Value) (w : World) : Prop :=
  Blk w b 76 #[.int .i64 2, .int .i64 0, .slice ad i cp, nilS] ∧ Blk w o 31 cs
theorem RbS.up {b o i : Nat} {ad : Option Addr} {cp : Nat} {cs : Array Value} {w w' : World} (h : RbS b o i ad cp cs w) (hU : Up w w') : RbS b o i ad cp cs w' := ⟨h.1.up hU, h.2.up hU⟩
theorem RbS.below {b o i B : Nat} {ad : Option Addr} {cp : Nat} {cs : Array Value} {w w' : World} (h : RbS b o i ad cp cs w) (hb : Below B w w') (h1 : b < B) (h2 : o < B) : RbS b o i ad cp cs w' := ⟨h.1.below hb h1, h.2.below hb h2⟩
theorem RbS.cells {b o i : Nat} {ad : Option Addr} {cp : Nat} {cs : Array Value} {w : World} (h : RbS b o i ad cp cs w) : w.cell? ⟨b, 2, none⟩ = some (.slice ad i cp) ∧ w.cell? ⟨o, i, none⟩ = cs[i]? := ⟨h.1.val rfl, h.2.read i⟩

/-- What the last appends' region reads. -/
def RdS (L b s : Nat) (ad : Option Addr) (cp : Nat) (vb : Value) (z x y r : Int) (w : World) : Prop :=
  Blk w L 76 #[.int .i64 3, .int .i64 0, nilS, .slice ad 6 cp] ∧ Blk w b 76 #[.int .i64 2, .int .i64 0, vb, nilS] ∧ Blk w s 33 #[.int .i64 z, .int .i64 x, .int .i64 y, .int .i64 r]
theorem RdS.up {L b s : Nat} {ad : Option Addr} {cp : Nat} {vb : Value} {z x y r : Int} {w w' : World} (h : RdS L b s ad cp vb z x y r w) (hU : Up w w') : RdS L b s ad cp vb z x y r w' := ⟨h.1.up hU, h.2.1.up hU, h.2.2.up hU⟩
theorem RdS.cells {L b s : Nat} {ad : Option Addr} {cp : Nat} {vb : Value} {z x y r : Int} {w : World} (h : RdS L b s ad cp vb z x y r w) : w.cell? ⟨L, 3, none⟩ = some (.slice ad 6 cp) ∧ w.cell? ⟨b, 0, none⟩ = some (.int .i64 2) ∧ w.cell? ⟨b, 1, none⟩ = some (.int .i64 0) ∧ w.cell? ⟨b, 2, none⟩ = some vb ∧ w.cell? ⟨b, 3, none⟩ = some nilS ∧ w.cell? ⟨s, 0, none⟩ = some (.int .i64 z) ∧ w.cell? ⟨s, 1, none⟩ = some (.int .i64 x) ∧ w.cell? ⟨s, 2, none⟩ = some (.int .i64 y) :=
  ⟨h.1.val rfl, h.2.1.val rfl, h.2.1.val rfl, h.2.1.val rfl, h.2.1.val rfl, h.2.2.val rfl, h.2.2.val rfl, h.2.2.val rfl⟩

/-- What the last region reads. -/
def ReS (L o : Nat) (v : Value) (P Q G A B C : Int) (w : World) : Prop := Blk w L 76 #[.int .i64 3, .int .i64 0, nilS, v] ∧ BasAt w o P Q G A B C
theorem ReS.up {L o : Nat} {v : Value} {P Q G A B C : Int} {w w' : World} (h : ReS L o v P Q G A B C w) (hU : Up w w') : ReS L o v P Q G A B C w' := ⟨h.1.up hU, h.2.up hU⟩
theorem ReS.cells {L o : Nat} {v : Value} {P Q G A B C : Int} {w : World} (h : ReS L o v P Q G A B C w) : w.cell? ⟨L, 0, none⟩ = some (.int .i64 3) ∧ w.cell? ⟨L, 1, none⟩ = some (.int .i64 0) ∧ w.cell? ⟨L, 2, none⟩ = some nilS ∧ w.cell? ⟨L, 3, none⟩ = some v ∧ w.cell? ⟨o, 1, none⟩ = some (.int .i64 Q) :=
  ⟨h.1.val rfl, h.1.val rfl, h.1.val rfl, h.1.val rfl, h.2.1.2.1⟩

/-- The five items behind the six. -/
def rcQ (vb : Value) (p z x y : Int) : List Quad := [quadI p, ⟨2, 0, vb, nilS⟩, quadI z, quadI x, quadI y]
theorem rcQ_cells {w : World} {g : Nat} {vb : Value} {p z x y : Int} {t : TypeId} (hg : w.heap.size = g) : ∀ i (h : i < (rcQ vb p z x y).length), ItmCells (w.alloc (.cells #[.int .i64 1, .int .i64 p, nilS, nilS, .int .i64 2, .int .i64 0, vb, nilS, .int .i64 1, .int .i64 z, nilS, nilS, .int .i64 1, .int .i64 x, nilS, nilS, .int .i64 1, .int .i64 y, nilS, nilS] t)) g (i * 4) (rcQ vb p z x y)[i].k (rcQ vb p z x y)[i].n (rcQ vb p z x y)[i].b (rcQ vb p z x y)[i].l := by
  intro i h
  have hB : Blk (w.alloc (.cells #[.int .i64 1, .int .i64 p, nilS, nilS, .int .i64 2, .int .i64 0, vb, nilS, .int .i64 1, .int .i64 z, nilS, nilS, .int .i64 1, .int .i64 x, nilS, nilS, .int .i64 1, .int .i64 y, nilS, nilS] t)) g t #[.int .i64 1, .int .i64 p, nilS, nilS, .int .i64 2, .int .i64 0, vb, nilS, .int .i64 1, .int .i64 z, nilS, nilS, .int .i64 1, .int .i64 x, nilS, nilS, .int .i64 1, .int .i64 y, nilS, nilS] := Blk.new hg rfl
  have : i = 0 ∨ i = 1 ∨ i = 2 ∨ i = 3 ∨ i = 4 := by simp [rcQ] at h; omega
  rcases this with rfl | rfl | rfl | rfl | rfl <;> exact ⟨hB.val rfl, hB.val rfl, hB.val rfl, hB.val rfl⟩
theorem rcQ_one {vb : Value} (hv : vb.oneCell' = true) {p z x y : Int} : ∀ i (h : i < (rcQ vb p z x y).length), (rcQ vb p z x y)[i].b.oneCell' = true ∧ (rcQ vb p z x y)[i].l.oneCell' = true := by
  intro i h
  have : i = 0 ∨ i = 1 ∨ i = 2 ∨ i = 3 ∨ i = 4 := by simp [rcQ] at h; omega
  rcases this with rfl | rfl | rfl | rfl | rfl <;> first | exact ⟨rfl, rfl⟩ | exact ⟨hv, rfl⟩
theorem rcQ_at {w : World} {vb : Value} {root : Nat → Int} (P Q G A B C p z a b : Int) (hs : SeqAt .u8 w vb (hList root)) (hR : Byt root) : QuadAt w 0 ([P, Q, G, A, B, C].map quadI ++ rcQ vb p z a b) (coinL P Q G A B C p root z a b) := by
  have h1 := quadI_at w 0 [P, Q, G, A, B, C, p]
  have h2 : QuadAt w 0 [⟨2, 0, vb, nilS⟩] [encBytes (hList root)] := QuadAt.one (itm_bytes hs (by rw [hList_length]; omega) (hList_bytes hR) 0)
  exact h1.app (h2.app (quadI_at w 0 [z, a, b]))

theorem rChallenge_any (P Q G A B C p : Int) (root : Nat → Int) (z a b r : Int) (w : World) (hQ0 : 1 ≤ Q) (hQ : Q < 2305843009213693952) (hR : Byt root) :
    Calls Tryz.prog 29 #[bas P Q G A B C, .int .i64 p, hashV root, sgn z a b r] w fun e w' => e = .returned (.int .i64 (coinC P Q G A B C p root z a b)) ∧ Up w w' := by
  obtain ⟨cs, hcs⟩ : ∃ cs, arrK .u8 root 32 = cs := ⟨_, rfl⟩
  have HCs : Hid (∀ i, i < 32 → cs[i]? = some (.int .u8 (root i))) := hid (fun i hi => by rw [← hcs, arrK_get hi])
  have HR := hid hR
  unfold hashV
  rw [hcs]
  clear hcs hR
  obtain ⟨o, ho⟩ : ∃ o, w.heap.size = o := ⟨_, rfl⟩
  have HO := hid ho
  clear ho
  go_enter Tryz.func29, Tryz.ntmps29
  go_wp2_with fail
  refine (rNumbers_any P Q G A B C _).mono ?_
  rintro e w1 ⟨gn, rfl, hI1, hU1⟩
  have HU1 := hid (((((Up.refl w).alloc _).alloc _).alloc _).trans hU1)
  have HA1 : Hid (BasAt w1 o P Q G A B C) := hid (((nums_six HO.out).up (((Up.refl _).alloc _).alloc _)).up hU1)
  have HC1 : Hid (Blk w1 (o + 1) 31 cs) := hid (((Blk.new (by simp [HO.out]) rfl).alloc _).up hU1)
  have HS1 : Hid (Blk w1 (o + 2) 33 #[.int .i64 z, .int .i64 a, .int .i64 b, .int .i64 r]) := hid ((Blk.new (by simp [HO.out]) rfl).up hU1)
  have HN1 := hid hI1
  rw [HO.out]
  clear hU1 hI1
  have hlo : o + 2 < w1.heap.size := HS1.out.lt
  go_wp2_with fail
  obtain ⟨L, hL⟩ : ∃ L, w1.heap.size = L := ⟨_, rfl⟩
  have hgn : gn < L := by rw [← hL]; exact HN1.out.lt
  obtain ⟨w2, hw2⟩ : ∃ w2, w1.alloc (.cells #[.int .i64 3, .int .i64 0, nilS, nilS] 76) = w2 := ⟨_, rfl⟩
  have HL2 : Hid (Blk w2 L 76 #[.int .i64 3, .int .i64 0, nilS, nilS]) := hid (by rw [← hw2]; exact Blk.new hL rfl)
  have HN2 : Hid (Blk w2 gn 3 #[.int .i64 P, .int .i64 Q, .int .i64 G, .int .i64 A, .int .i64 B, .int .i64 C]) := hid (by rw [← hw2]; exact HN1.out.alloc _)
  have HV2 : Hid (Up w1 w2) := hid (by rw [← hw2]; exact (Up.refl _).alloc _)
  have HL1 := hid hL
  have HWo : Hid (w.heap.size ≤ L) := hid (by have := HU1.out.size; omega)
  rw [hL] at hlo
  rw [hL]
  rw [show w1.alloc (.cells #[.int .i64 3, .int .i64 0, .slice none 0 0, .slice none 0 0] 76) = w2 from hw2]
  clear hL hw2 HN1
  have hc6 : ∀ i, i < 6 → #[Value.int .i64 P, .int .i64 Q, .int .i64 G, .int .i64 A, .int .i64 B, .int .i64 C][i]? = some (.int .i64 ([P, Q, G, A, B, C].getD i 0)) := fun i hi => by
    have : i = 0 ∨ i = 1 ∨ i = 2 ∨ i = 3 ∨ i = 4 ∨ i = 5 := by omega
    rcases this with rfl | rfl | rfl | rfl | rfl | rfl <;> rfl
  have HC6 := hid hc6
  have hn6 : ∀ i, i < 6 → [P, Q, G, A, B, C].take (i + 1) = [P, Q, G, A, B, C].take i ++ [[P, Q, G, A, B, C].getD i 0] := fun i hi => by
    rw [List.take_succ_eq_append_getElem (by simp; omega)]
    simp [hi]
  have HN6 := hid hn6
  have HLen6 : Hid (∀ i, i ≤ 6 → (([P, Q, G, A, B, C].take i).map quadI).length = i) := hid (fun i hi => by simp; omega)
  have HNs : Hid ([P, Q, G, A, B, C].take 6 = [P, Q, G, A, B, C]) := hid rfl
  clear hc6 hn6
  generalize hns : #[Value.int .i64 P, .int .i64 Q, .int .i64 G, .int .i64 A, .int .i64 B, .int .i64 C] = ns at *
  generalize hnl : [P, Q, G, A, B, C] = nl at *
  have HNl := hid hnl
  clear hns hnl
  go_loopw [11] (fun vi wr => ∃ (i : Nat) (ad : Option Addr) (cp : Nat), i ≤ 6 ∧ vi = .int .i64 i ∧ Hid (RcS L gn i ad cp ns wr) ∧ Hid (OwnQ 76 wr (L + 1) (.slice ad i cp) ((nl.take i).map quadI)) ∧ Hid (Up w1 wr)) (fun vi _ => 6 - (intOf vi).toNat)
  case atStart => exact ⟨0, none, 0, by omega, rfl, hid ⟨HL2.out, HN2.out⟩, hid ownQ_none, HV2⟩
  case round =>
    clear HL2 HN2 HV2
    obtain ⟨i, ad, cp, hi, rfl, HB, HQ, HV⟩ := hrel
    have hLw : L < wr.heap.size := HB.out.1.lt
    by_cases hlt : i < 6
    · have z1 : (i : Int) < 6 := by omega
      have HX := hid (HC6.out i hlt)
      have HT6 := hid (HN6.out i hlt)
      have HLi := hid (HLen6.out i (by omega))
      have HLi1 := hid (HLen6.out (i + 1) (by omega))
      generalize nl.getD i 0 = x at *
      have HQ7 : Hid ((nl.take i).map quadI ++ [quadI x] = (nl.take (i + 1)).map quadI) := hid (by rw [HT6.out, List.map_append]; rfl)
      go_wp2_with fail
      refine region_E (RcS L gn i ad cp ns) 10 (by kernel_rfl) (HB.out.up (Up.refl _).drew) fun hS => ?_
      refine anyE_take (i := 0) (v := ?_) 23 rfl rfl (by kernel_rfl) (by kernel_rfl) (by decide) (fun _ _ _ h => h) (by kernel_rfl) (by kernel_rfl) (.inl ⟨by rfl, fun u hu => ?_⟩) hS ?_
      rotate_left
      · (obtain ⟨u1, u2⟩ := RcS.cells hu; rw [HX.out] at u2; go_simp; first | done | with_reducible rfl)
      simp only [Act.put, List.setIfInBounds_toArray, List.set_cons_zero, List.set_cons_succ]
      refine anyE_take (i := 1) (v := ?_) 24 rfl rfl (by kernel_rfl) (by kernel_rfl) (by decide) (fun _ _ _ h => h) (by kernel_rfl) (by kernel_rfl) (.inl ⟨by rfl, fun u hu => ?_⟩) hS ?_
      rotate_left
      · (obtain ⟨u1, u2⟩ := RcS.cells hu; rw [HX.out] at u2; go_simp; first | done | with_reducible rfl)
      simp only [Act.put, List.setIfInBounds_toArray, List.set_cons_zero, List.set_cons_succ]
      refine anyE_take (i := 2) (v := ?_) 25 rfl rfl (by kernel_rfl) (by kernel_rfl) (by decide) (fun _ _ _ h => h) (by kernel_rfl) (by kernel_rfl) (.inl ⟨by rfl, fun u hu => ?_⟩) hS ?_
      rotate_left
      · (obtain ⟨u1, u2⟩ := RcS.cells hu; rw [HX.out] at u2; go_simp; first | done | with_reducible rfl)
      simp only [Act.put, List.setIfInBounds_toArray, List.set_cons_zero, List.set_cons_succ]
      refine anyE_take (i := 3) (v := ?_) 26 rfl rfl (by kernel_rfl) (by kernel_rfl) (by decide) (fun _ _ _ h => h) (by kernel_rfl) (by kernel_rfl) (.inl ⟨by rfl, fun u hu => ?_⟩) hS ?_
      rotate_left
      · (obtain ⟨u1, u2⟩ := RcS.cells hu; rw [HX.out] at u2; go_simp; first | done | with_reducible rfl)
      simp only [Act.put, List.setIfInBounds_toArray, List.set_cons_zero, List.set_cons_succ]
      refine anyE_take (i := 4) (v := ?_) 27 rfl rfl (by kernel_rfl) (by kernel_rfl) (by decide) (fun _ _ _ h => h) (by kernel_rfl) (by kernel_rfl) (.inl ⟨by rfl, fun u hu => ?_⟩) hS ?_
      rotate_left
      · (obtain ⟨u1, u2⟩ := RcS.cells hu; rw [HX.out] at u2; go_simp; first | done | with_reducible rfl)
      simp only [Act.put, List.setIfInBounds_toArray, List.set_cons_zero, List.set_cons_succ]
      refine anyE_take (i := 5) (v := ?_) 28 rfl rfl (by kernel_rfl) (by kernel_rfl) (by decide) (fun _ _ _ h => h) (by kernel_rfl) (by kernel_rfl) (.inl ⟨by rfl, fun u hu => ?_⟩) hS ?_
      rotate_left
      · (obtain ⟨u1, u2⟩ := RcS.cells hu; rw [HX.out] at u2; go_simp; first | done | with_reducible rfl)
      simp only [Act.put, List.setIfInBounds_toArray, List.set_cons_zero, List.set_cons_succ]
      refine anyE_one (i := 6) rfl (by kernel_rfl) rfl (fun K hK => ?_)
      go_simp
      refine (rInteger_any x _).mono ?_
      rintro e w3 ⟨rfl, hU3⟩
      dsimp only
      have hS3 := RcS.up hS hU3
      refine hK.out _ _ (.inr hS3) ?_
      clear hK
      try simp only [Act.put, List.setIfInBounds_toArray, List.set_cons_zero, List.set_cons_succ]
      refine anyE_one (i := 7) rfl (by kernel_rfl) rfl (fun K hK => ?_)
      go_simp
      have hQ4 := (Up.refl w3).alloc (.cells #[.int .i64 1, .int .i64 x, nilS, nilS] 76)
      have hS4 := RcS.up hS3 hQ4
      refine hK.out _ _ (.inr hS4) ?_
      clear hK
      try simp only [Act.put, List.setIfInBounds_toArray, List.set_cons_zero, List.set_cons_succ]
      have hVw : Up wr (w3.alloc (.cells #[.int .i64 1, .int .i64 x, nilS, nilS] 76)) := ((Up.refl wr).drew.trans hU3).trans hQ4
      have hO4 := HQ.out.up hVw
      have hz4 := hVw.size
      refine anyE_one (i := 8) rfl (by kernel_rfl) rfl (fun K hK => ?_)
      refine op_appQ infoItm rfl Tryz.underlying74 (by omega) _ _ rfl (L + 1) rfl hO4 w3.heap.size 1 (news := [quadI x]) rfl (fun j hj => by (obtain rfl : j = 0 := (by simp at hj; omega)); exact itm_new rfl) (fun j hj => by (obtain rfl : j = 0 := (by simp at hj; omega)); exact ⟨rfl, rfl⟩) (by have := HLi.out; simp; simp at this; omega) (by omega) ?_
      intro v5 w5 hO5 hg5
      have hB5 := hO4.below hg5 (by omega)
      have hS5 := RcS.below hS4 hB5 (by omega) (by omega)
      rw [HQ7.out] at hO5
      obtain ⟨a5, c5, rfl⟩ := hO5.shape
      rw [HLi1.out] at hO5
      rw [HLi1.out]
      change K (Act.put _ (some 31) _) _
      refine hK.out _ _ (.inr hS5) ?_
      clear hK
      try simp only [Act.put, List.setIfInBounds_toArray, List.set_cons_zero, List.set_cons_succ]
      refine anyE_take (i := 9) (v := ?_) 32 rfl rfl (by kernel_rfl) (by kernel_rfl) (by decide) (fun _ _ _ h => h) (by kernel_rfl) (by kernel_rfl) (.inl ⟨by rfl, fun u hu => ?_⟩) hS5 ?_
      rotate_left
      · (obtain ⟨u1, u2⟩ := RcS.cells hu; rw [HX.out] at u2; go_simp; first | done | with_reducible rfl)
      simp only [Act.put, List.setIfInBounds_toArray, List.set_cons_zero, List.set_cons_succ]
      have k3 := hS5.1.val (i := 3) rfl
      have y3 := hS5.1.thawed 3
      refine anyE_one (i := 10) rfl (by kernel_rfl) rfl (fun K hK => ?_)
      go_simp
      refine hK.out _ _ (.inl rfl) (anyE_done (by kernel_rfl) ?_ _)
      clear hK
      have HS6 : Hid (RcS L gn (i + 1) a5 c5 ns (w5.setCell ⟨L, 3, none⟩ (.slice a5 (i + 1) c5))) := hid ⟨hS5.1.wrote 3 _, hS5.2.apart (a := ⟨L, 3, none⟩) (by show gn ≠ L; omega) _⟩
      have HQ6 := hid (hO5.set (a := ⟨L, 3, none⟩) (by show L < L + 1; omega) (.slice a5 (i + 1) c5))
      have HV6 := hid ((up_below (HV.out.trans hVw) hB5 (by have := HL1.out; omega)).setCell (a := ⟨L, 3, none⟩) (by have := HL1.out; show w1.heap.size ≤ L; omega) (.slice a5 (i + 1) c5))
      clear hS hS3 hS4 hS5 k3 y3 hO4 hO5 hg5 hB5 hVw hQ4 hU3 hz4
      generalize w5.setCell ⟨L, 3, none⟩ (.slice a5 (i + 1) c5) = w6 at *
      go_wp2_with fail
      go_roundw
      case rel => exact ⟨i + 1, a5, c5, by omega, by go_num, HS6, HQ6, HV6⟩
      case measure => simp [intOf]; omega
    · obtain rfl : i = 6 := by omega
      rw [show ((6 : Nat) : Int) = 6 from rfl]
      have HC2 := hid (HC1.out.up HV.out)
      have HS2 := hid (HS1.out.up HV.out)
      have HU2 := hid (HU1.out.trans HV.out)
      have HLn6 := hid (HLen6.out 6 (by omega))
      have HQr := HQ
      have hz2 : decide ((6 : Int) < 6) = false := by decide
      clear HC1 HS1 HU1 HQ HC6 HN6 HLen6
      go_wp2_with fail
      obtain ⟨b0, hb0⟩ : ∃ b0, wr.heap.size = b0 := ⟨_, rfl⟩
      obtain ⟨w3, hw3⟩ : ∃ w3, wr.alloc (.cells #[.int .i64 2, .int .i64 0, nilS, nilS] 76) = w3 := ⟨_, rfl⟩
      have HV3 : Hid (Up wr w3) := hid (by rw [← hw3]; exact (Up.refl _).alloc _)
      have HB3 : Hid (Blk w3 b0 76 #[.int .i64 2, .int .i64 0, nilS, nilS]) := hid (by rw [← hw3]; exact Blk.new hb0 rfl)
      have HC3 := hid (HC2.out.up HV3.out)
      have HB0 := hid hb0
      have HWb : Hid (w.heap.size ≤ b0) := hid (by have := HWo.out; omega)
      rw [hb0]
      rw [show wr.alloc (.cells #[.int .i64 2, .int .i64 0, .slice none 0 0, .slice none 0 0] 76) = w3 from hw3]
      rw [hb0] at hLw
      clear hw3 hb0
      have HSn := hid (joinTo_succ root [])
      have HLj := hid (joinTo_length root [])
      have HJe : Hid (joinTo root [] 32 = hList root) := hid rfl
      go_loopw [13] (fun vi wq => ∃ (i : Nat) (a2 : Option Addr) (c2 : Nat), i ≤ 32 ∧ vi = .int .i64 i ∧ Hid (RbS b0 (o + 1) i a2 c2 cs wq) ∧ Hid (OwnS 5 .u8 wq (b0 + 1) (.slice a2 i c2) (joinTo root [] i)) ∧ Hid (Up wr wq)) (fun vi _ => 32 - (intOf vi).toNat)
      case atStart => exact ⟨0, none, 0, by omega, rfl, hid ⟨HB3.out, HC3.out⟩, hid own_none, HV3⟩
      case round =>
        clear HB3 HC3 HV3
        obtain ⟨i, a2, c2, hi, rfl, HBq, HOq, HVq⟩ := hrel
        have hbw : b0 < wr.heap.size := HBq.out.1.lt
        by_cases hlt : i < 32
        · have z1 : (i : Int) < 32 := by omega
          have HX := hid (HCs.out i hlt)
          have HS' := hid (HSn.out i)
          have HLi := hid (HLj.out i)
          have HLi1 := hid (HLj.out (i + 1))
          generalize root i = x at *
          go_wp2_with fail
          refine region_E (RbS b0 (o + 1) i a2 c2 cs) 8 (by kernel_rfl) (HBq.out.up (Up.refl _).drew) fun hS => ?_
          refine anyE_take (i := 0) (v := ?_) 38 rfl rfl (by kernel_rfl) (by kernel_rfl) (by decide) (fun _ _ _ h => h) (by kernel_rfl) (by kernel_rfl) (.inl ⟨by rfl, fun u hu => ?_⟩) hS ?_
          rotate_left
          · (obtain ⟨u1, u2⟩ := RbS.cells hu; rw [HX.out] at u2; go_simp; first | done | with_reducible rfl)
          simp only [Act.put, List.setIfInBounds_toArray, List.set_cons_zero, List.set_cons_succ]
          refine anyE_take (i := 1) (v := ?_) 39 rfl rfl (by kernel_rfl) (by kernel_rfl) (by decide) (fun _ _ _ h => h) (by kernel_rfl) (by kernel_rfl) (.inl ⟨by rfl, fun u hu => ?_⟩) hS ?_
          rotate_left
          · (obtain ⟨u1, u2⟩ := RbS.cells hu; rw [HX.out] at u2; go_simp; first | done | with_reducible rfl)
          simp only [Act.put, List.setIfInBounds_toArray, List.set_cons_zero, List.set_cons_succ]
          refine anyE_take (i := 2) (v := ?_) 40 rfl rfl (by kernel_rfl) (by kernel_rfl) (by decide) (fun _ _ _ h => h) (by kernel_rfl) (by kernel_rfl) (.inl ⟨by rfl, fun u hu => ?_⟩) hS ?_
          rotate_left
          · (obtain ⟨u1, u2⟩ := RbS.cells hu; rw [HX.out] at u2; go_simp; first | done | with_reducible rfl)
          simp only [Act.put, List.setIfInBounds_toArray, List.set_cons_zero, List.set_cons_succ]
          refine anyE_take (i := 3) (v := ?_) 41 rfl rfl (by kernel_rfl) (by kernel_rfl) (by decide) (fun _ _ _ h => h) (by kernel_rfl) (by kernel_rfl) (.inl ⟨by rfl, fun u hu => ?_⟩) hS ?_
          rotate_left
          · (obtain ⟨u1, u2⟩ := RbS.cells hu; rw [HX.out] at u2; go_simp; first | done | with_reducible rfl)
          simp only [Act.put, List.setIfInBounds_toArray, List.set_cons_zero, List.set_cons_succ]
          refine anyE_take (i := 4) (v := ?_) 42 rfl rfl (by kernel_rfl) (by kernel_rfl) (by decide) (fun _ _ _ h => h) (by kernel_rfl) (by kernel_rfl) (.inl ⟨by rfl, fun u hu => ?_⟩) hS ?_
          rotate_left
          · (obtain ⟨u1, u2⟩ := RbS.cells hu; rw [HX.out] at u2; go_simp; first | done | with_reducible rfl)
          simp only [Act.put, List.setIfInBounds_toArray, List.set_cons_zero, List.set_cons_succ]
          refine anyE_one (i := 5) rfl (by kernel_rfl) rfl (fun K hK => ?_)
          go_simp
          have hQ4 := (Up.refl wr).drew.alloc (.cells #[.int .u8 x] 5)
          have hS4 := RbS.up HBq.out hQ4
          refine hK.out _ _ (.inr hS4) ?_
          clear hK
          try simp only [Act.put, List.setIfInBounds_toArray, List.set_cons_zero, List.set_cons_succ]
          have hO4 := HOq.out.up hQ4
          have hz4 := hQ4.size
          refine anyE_one (i := 6) rfl (by kernel_rfl) rfl (fun K hK => ?_)
          refine op_app infoU8 Tryz.underlying73 (by omega) _ _ rfl (b0 + 1) rfl rfl hO4 (seq_new _ x _) (by have := HLi.out; simp; simp at this; omega) (Nat.le_trans (show b0 + 1 ≤ wr.heap.size by omega) hQ4.size) ?_
          intro v5 w5 hO5 hg5
          have hB5 := below_own hO4 hg5 (Nat.le_trans (show b0 + 1 ≤ wr.heap.size by omega) hQ4.size)
          have hS5 := RbS.below hS4 hB5 (by omega) (by omega)
          rw [HS'.out] at hO5
          obtain ⟨a5, c5, rfl, _, _⟩ := hO5.shape
          rw [HLi1.out] at hO5
          rw [HLi1.out]
          simp only [List.length_nil, Nat.zero_add] at hO5 ⊢
          change K (Act.put _ (some 44) _) _
          refine hK.out _ _ (.inr hS5) ?_
          clear hK
          try simp only [Act.put, List.setIfInBounds_toArray, List.set_cons_zero, List.set_cons_succ]
          refine anyE_take (i := 7) (v := ?_) 45 rfl rfl (by kernel_rfl) (by kernel_rfl) (by decide) (fun _ _ _ h => h) (by kernel_rfl) (by kernel_rfl) (.inl ⟨by rfl, fun u hu => ?_⟩) hS5 ?_
          rotate_left
          · (obtain ⟨u1, u2⟩ := RbS.cells hu; rw [HX.out] at u2; go_simp; first | done | with_reducible rfl)
          simp only [Act.put, List.setIfInBounds_toArray, List.set_cons_zero, List.set_cons_succ]
          have k3 := hS5.1.val (i := 2) rfl
          have y3 := hS5.1.thawed 2
          refine anyE_one (i := 8) rfl (by kernel_rfl) rfl (fun K hK => ?_)
          go_simp
          refine hK.out _ _ (.inl rfl) (anyE_done (by kernel_rfl) ?_ _)
          clear hK
          have HS6 : Hid (RbS b0 (o + 1) (i + 1) a5 c5 cs (w5.setCell ⟨b0, 2, none⟩ (.slice a5 (i + 1) c5))) := hid ⟨hS5.1.wrote 2 _, hS5.2.apart (a := ⟨b0, 2, none⟩) (by show o + 1 ≠ b0; omega) _⟩
          have HO6 := hid (OwnS.set hO5 (a := ⟨b0, 2, none⟩) (by show b0 < b0 + 1; omega) (.slice a5 (i + 1) c5))
          have HV6 := hid ((up_below (HVq.out.trans hQ4) hB5 (by have := HB0.out; omega)).setCell (a := ⟨b0, 2, none⟩) (by have := HB0.out; show _ ≤ b0; omega) (.slice a5 (i + 1) c5))
          clear hS hS4 hS5 k3 y3 hO4 hO5 hg5 hB5 hQ4 hz4
          generalize w5.setCell ⟨b0, 2, none⟩ (.slice a5 (i + 1) c5) = w6 at *
          go_wp2_with fail
          go_roundw
          case rel => exact ⟨i + 1, a5, c5, by omega, by go_num, HS6, HO6, HV6⟩
          case measure => simp [intOf]; omega
        · obtain rfl : i = 32 := by omega
          rw [show ((32 : Nat) : Int) = 32 from rfl]
          have HO2 := hid HOq.out
          rw [HJe.out] at HO2
          have HU3 := hid (HU2.out.trans HVq.out)
          have HQ3 := hid (HQr.out.up HVq.out)
          have hS0 : RdS L b0 (o + 2) ad cp (.slice a2 32 c2) z a b r wr := ⟨HB.out.1.up HVq.out, HBq.out.1, HS2.out.up HVq.out⟩
          have HQlt : Hid (∀ j, (Value.slice ad 6 cp).ownBlock = some j → j < b0) := hid (fun j hj => by rw [← HB0.out]; exact OwnQ.blockLt HQr.out j hj)
          clear HOq HU2 HQr HSn HLj HB
          go_wp2_with fail
          refine region_E (RdS L b0 (o + 2) ad cp (.slice a2 32 c2) z a b r) 17 (by kernel_rfl) (hS0.up (Up.refl _).drew) fun hS => ?_
          refine anyE_take (i := 0) (v := ?_) 46 rfl rfl (by kernel_rfl) (by kernel_rfl) (by decide) (fun _ _ _ h => h) (by kernel_rfl) (by kernel_rfl) (.inl ⟨by rfl, fun u hu => ?_⟩) hS ?_
          rotate_left
          · (obtain ⟨u1, u2, u3, u4, u5, u6, u7, u8⟩ := RdS.cells hu; go_simp; first | done | with_reducible rfl)
          simp only [Act.put, List.setIfInBounds_toArray, List.set_cons_zero, List.set_cons_succ]
          refine anyE_take (i := 1) (v := ?_) 47 rfl rfl (by kernel_rfl) (by kernel_rfl) (by decide) (fun _ _ _ h => h) (by kernel_rfl) (by kernel_rfl) (.inl ⟨by rfl, fun u hu => ?_⟩) hS ?_
          rotate_left
          · (obtain ⟨u1, u2, u3, u4, u5, u6, u7, u8⟩ := RdS.cells hu; go_simp; first | done | with_reducible rfl)
          simp only [Act.put, List.setIfInBounds_toArray, List.set_cons_zero, List.set_cons_succ]
          refine anyE_take (i := 2) (v := ?_) 48 rfl rfl (by kernel_rfl) (by kernel_rfl) (by decide) (fun _ _ _ h => h) (by kernel_rfl) (by kernel_rfl) (.inl ⟨by rfl, fun u hu => ?_⟩) hS ?_
          rotate_left
          · (obtain ⟨u1, u2, u3, u4, u5, u6, u7, u8⟩ := RdS.cells hu; go_simp; first | done | with_reducible rfl)
          simp only [Act.put, List.setIfInBounds_toArray, List.set_cons_zero, List.set_cons_succ]
          refine anyE_take (i := 4) (v := ?_) 50 rfl rfl (by kernel_rfl) (by kernel_rfl) (by decide) (fun _ _ _ h => h) (by kernel_rfl) (by kernel_rfl) (.inl ⟨by rfl, fun u hu => ?_⟩) hS ?_
          rotate_left
          · (obtain ⟨u1, u2, u3, u4, u5, u6, u7, u8⟩ := RdS.cells hu; go_simp; first | done | with_reducible rfl)
          simp only [Act.put, List.setIfInBounds_toArray, List.set_cons_zero, List.set_cons_succ]
          refine anyE_take (i := 5) (v := ?_) 51 rfl rfl (by kernel_rfl) (by kernel_rfl) (by decide) (fun _ _ _ h => h) (by kernel_rfl) (by kernel_rfl) (.inl ⟨by rfl, fun u hu => ?_⟩) hS ?_
          rotate_left
          · (obtain ⟨u1, u2, u3, u4, u5, u6, u7, u8⟩ := RdS.cells hu; go_simp; first | done | with_reducible rfl)
          simp only [Act.put, List.setIfInBounds_toArray, List.set_cons_zero, List.set_cons_succ]
          refine anyE_take (i := 6) (v := ?_) 52 rfl rfl (by kernel_rfl) (by kernel_rfl) (by decide) (fun _ _ _ h => h) (by kernel_rfl) (by kernel_rfl) (.inl ⟨by rfl, fun u hu => ?_⟩) hS ?_
          rotate_left
          · (obtain ⟨u1, u2, u3, u4, u5, u6, u7, u8⟩ := RdS.cells hu; go_simp; first | done | with_reducible rfl)
          simp only [Act.put, List.setIfInBounds_toArray, List.set_cons_zero, List.set_cons_succ]
          refine anyE_take (i := 8) (v := ?_) 54 rfl rfl (by kernel_rfl) (by kernel_rfl) (by decide) (fun _ _ _ h => h) (by kernel_rfl) (by kernel_rfl) (.inl ⟨by rfl, fun u hu => ?_⟩) hS ?_
          rotate_left
          · (obtain ⟨u1, u2, u3, u4, u5, u6, u7, u8⟩ := RdS.cells hu; go_simp; first | done | with_reducible rfl)
          simp only [Act.put, List.setIfInBounds_toArray, List.set_cons_zero, List.set_cons_succ]
          refine anyE_take (i := 9) (v := ?_) 55 rfl rfl (by kernel_rfl) (by kernel_rfl) (by decide) (fun _ _ _ h => h) (by kernel_rfl) (by kernel_rfl) (.inl ⟨by rfl, fun u hu => ?_⟩) hS ?_
          rotate_left
          · (obtain ⟨u1, u2, u3, u4, u5, u6, u7, u8⟩ := RdS.cells hu; go_simp; first | done | with_reducible rfl)
          simp only [Act.put, List.setIfInBounds_toArray, List.set_cons_zero, List.set_cons_succ]
          refine anyE_take (i := 11) (v := ?_) 57 rfl rfl (by kernel_rfl) (by kernel_rfl) (by decide) (fun _ _ _ h => h) (by kernel_rfl) (by kernel_rfl) (.inl ⟨by rfl, fun u hu => ?_⟩) hS ?_
          rotate_left
          · (obtain ⟨u1, u2, u3, u4, u5, u6, u7, u8⟩ := RdS.cells hu; go_simp; first | done | with_reducible rfl)
          simp only [Act.put, List.setIfInBounds_toArray, List.set_cons_zero, List.set_cons_succ]
          refine anyE_take (i := 12) (v := ?_) 58 rfl rfl (by kernel_rfl) (by kernel_rfl) (by decide) (fun _ _ _ h => h) (by kernel_rfl) (by kernel_rfl) (.inl ⟨by rfl, fun u hu => ?_⟩) hS ?_
          rotate_left
          · (obtain ⟨u1, u2, u3, u4, u5, u6, u7, u8⟩ := RdS.cells hu; go_simp; first | done | with_reducible rfl)
          simp only [Act.put, List.setIfInBounds_toArray, List.set_cons_zero, List.set_cons_succ]
          refine anyE_one (i := 3) rfl (by kernel_rfl) rfl (fun K hK => ?_)
          go_simp
          refine (rInteger_any p _).mono ?_
          rintro e w4 ⟨rfl, hU4⟩
          dsimp only
          have hS4 := RdS.up hS hU4
          have hD4 := (Up.refl wr).drew.trans hU4
          refine hK.out _ _ (.inr hS4) ?_
          clear hK
          try simp only [Act.put, List.setIfInBounds_toArray, List.set_cons_zero, List.set_cons_succ]
          refine anyE_one (i := 7) rfl (by kernel_rfl) rfl (fun K hK => ?_)
          go_simp
          refine (rInteger_any z _).mono ?_
          rintro e w5 ⟨rfl, hU5⟩
          dsimp only
          have hS5 := RdS.up hS4 hU5
          have hD5 := hD4.trans hU5
          refine hK.out _ _ (.inr hS5) ?_
          clear hK
          try simp only [Act.put, List.setIfInBounds_toArray, List.set_cons_zero, List.set_cons_succ]
          refine anyE_one (i := 10) rfl (by kernel_rfl) rfl (fun K hK => ?_)
          go_simp
          refine (rInteger_any a _).mono ?_
          rintro e w6 ⟨rfl, hU6⟩
          dsimp only
          have hS6 := RdS.up hS5 hU6
          have hD6 := hD5.trans hU6
          refine hK.out _ _ (.inr hS6) ?_
          clear hK
          try simp only [Act.put, List.setIfInBounds_toArray, List.set_cons_zero, List.set_cons_succ]
          refine anyE_one (i := 13) rfl (by kernel_rfl) rfl (fun K hK => ?_)
          go_simp
          refine (rInteger_any b _).mono ?_
          rintro e w7 ⟨rfl, hU7⟩
          dsimp only
          have hS7 := RdS.up hS6 hU7
          have hD7 := hD6.trans hU7
          refine hK.out _ _ (.inr hS7) ?_
          clear hK
          try simp only [Act.put, List.setIfInBounds_toArray, List.set_cons_zero, List.set_cons_succ]
          refine anyE_one (i := 14) rfl (by kernel_rfl) rfl (fun K hK => ?_)
          go_simp
          have hD8 := hD7.alloc (.cells #[.int .i64 1, .int .i64 p, nilS, nilS, .int .i64 2, .int .i64 0, .slice a2 32 c2, nilS, .int .i64 1, .int .i64 z, nilS, nilS, .int .i64 1, .int .i64 a, nilS, nilS, .int .i64 1, .int .i64 b, nilS, nilS] 76)
          have hS8 := RdS.up hS7 ((Up.refl w7).alloc (.cells #[.int .i64 1, .int .i64 p, nilS, nilS, .int .i64 2, .int .i64 0, .slice a2 32 c2, nilS, .int .i64 1, .int .i64 z, nilS, nilS, .int .i64 1, .int .i64 a, nilS, nilS, .int .i64 1, .int .i64 b, nilS, nilS] 76))
          refine hK.out _ _ (.inr hS8) ?_
          clear hK
          try simp only [Act.put, List.setIfInBounds_toArray, List.set_cons_zero, List.set_cons_succ]
          have hQ8 := HQ3.out.up hD8
          have hz8 := hD8.size
          refine anyE_one (i := 15) rfl (by kernel_rfl) rfl (fun K hK => ?_)
          refine op_appQ infoItm rfl Tryz.underlying74 (by omega) _ _ rfl (L + 1) rfl hQ8 w7.heap.size 5 (news := rcQ (.slice a2 32 c2) p z a b) rfl (rcQ_cells rfl) (rcQ_one rfl) (by rw [HLn6.out]; simp [rcQ]) (by omega) ?_
          intro v9 w9 hO9 hg9
          have hB9 := hQ8.below hg9 (by omega)
          have hno : some b0 ≠ (Value.slice ad 6 cp).ownBlock := fun he => by have := HQlt.out b0 he.symm; omega
          have hno2 : some (o + 2) ≠ (Value.slice ad 6 cp).ownBlock := fun he => by have := hQ8.block (o + 2) he.symm; omega
          have hno3 : some L ≠ (Value.slice ad 6 cp).ownBlock := fun he => by have := hQ8.block L he.symm; omega
          have hS9 : RdS L b0 (o + 2) ad cp (.slice a2 32 c2) z a b r w9 := ⟨hS8.1.grown hg9 hno3, hS8.2.1.grown hg9 hno, hS8.2.2.grown hg9 hno2⟩
          have hP9 := (HO2.out.up hD8).grown hg9 (by
            rcases hv : (Value.slice a2 32 c2).ownBlock with _ | j
            · exact .inl rfl
            · exact .inr (fun he => by
                have h1 := HQlt.out j he.symm
                have h2 := HO2.out.block j hv
                omega))
          obtain ⟨a9, c9, rfl⟩ := hO9.shape
          have hlen : ((nl.take 6).map quadI ++ rcQ (.slice a2 32 c2) p z a b).length = 11 := by rw [List.length_append, HLn6.out]; rfl
          rw [hlen] at hO9
          rw [hlen]
          change K (Act.put _ (some 61) _) _
          refine hK.out _ _ (.inr hS9) ?_
          clear hK
          try simp only [Act.put, List.setIfInBounds_toArray, List.set_cons_zero, List.set_cons_succ]
          have k3 := hS9.1.val (i := 3) rfl
          have y3 := hS9.1.thawed 3
          refine anyE_take (i := 16) (v := ?_) 62 rfl rfl (by kernel_rfl) (by kernel_rfl) (by decide) (fun _ _ _ h => h) (by kernel_rfl) (by kernel_rfl) (.inl ⟨by rfl, fun u hu => ?_⟩) hS9 ?_
          rotate_left
          · (obtain ⟨u1, u2, u3, u4, u5, u6, u7, u8⟩ := RdS.cells hu; go_simp; first | done | with_reducible rfl)
          simp only [Act.put, List.setIfInBounds_toArray, List.set_cons_zero, List.set_cons_succ]
          refine anyE_one (i := 17) rfl (by kernel_rfl) rfl (fun K hK => ?_)
          go_simp
          refine hK.out _ _ (.inl rfl) (anyE_done (by kernel_rfl) ?_ _)
          clear hK
          have HL9 : Hid (Blk (w9.setCell ⟨L, 3, none⟩ (.slice a9 11 c9)) L 76 #[.int .i64 3, .int .i64 0, nilS, .slice a9 11 c9]) := hid (hS9.1.wrote 3 _)
          have HO9 := hid (hO9.set (a := ⟨L, 3, none⟩) (by show L < L + 1; omega) (.slice a9 11 c9))
          have HP9 := hid (OwnS.set hP9 (a := ⟨L, 3, none⟩) (by show L < b0 + 1; omega) (.slice a9 11 c9))
          have HV9 := hid ((up_below (HU3.out.trans hD8) hB9 (by have := HWo.out; omega)).setCell (a := ⟨L, 3, none⟩) (by have := HWo.out; show w.heap.size ≤ L; omega) (.slice a9 11 c9))
          have HA9 : Hid (BasAt (w9.setCell ⟨L, 3, none⟩ (.slice a9 11 c9)) o P Q G A B C) := hid (HA1.out.up ((up_below ((HV.out.trans HVq.out).trans hD8) hB9 (by have := HL1.out; omega)).setCell (a := ⟨L, 3, none⟩) (by have := HL1.out; show w1.heap.size ≤ L; omega) _))
          clear hS hS0 hS4 hS5 hS6 hS7 hS8 hS9 k3 y3 hO9 hg9 hB9 hD4 hD5 hD6 hD7 hD8 hU4 hU5 hU6 hU7 hz8 hQ8 hP9 hno hno2 hno3 hlen
          generalize w9.setCell ⟨L, 3, none⟩ (.slice a9 11 c9) = wa at *
          have HIt : Hid (ItmAt wa 1 3 0 nilS (.slice a9 11 c9) (encList (coinL P Q G A B C p root z a b))) := hid (by
              have h1 := HO9.out
              rw [HNs.out, ← HNl.out] at h1
              exact itm_list (h1.row (rcQ_at P Q G A B C p z a b HP9.out.seq HR.out)) (by simp [coinL]))
          have HEl : Hid ((encList (coinL P Q G A B C p root z a b)).length = 132) := hid (by rw [encList_length, coinL_flat])
          have HEb := hid (coinL_byt (P := P) (Q := Q) (G := G) (A := A) (B := B) (C := C) (p := p) (z := z) (a := a) (b := b) HR.out)
          have HVn : Hid (coinC P Q G A B C p root z a b = numH (tagB (txt coinTag) (encList (coinL P Q G A B C p root z a b))) Q) := hid (by rw [coinTag_txt]; rfl)
          have hS0 : ReS L o (.slice a9 11 c9) P Q G A B C wa := ⟨HL9.out, HA9.out⟩
          generalize encList (coinL P Q G A B C p root z a b) = es at *
          clear HO9 HP9 HQ3 HU3 HA1 HO2 HL9 HA9 HS2 HC2 HQlt HBq HV HVq
          go_wp2_with fail
          refine region_E (ReS L o (.slice a9 11 c9) P Q G A B C) 7 (by kernel_rfl) (hS0.up (Up.refl _).drew) fun hS => ?_
          refine anyE_take (i := 0) (v := ?_) 63 rfl rfl (by kernel_rfl) (by kernel_rfl) (by decide) (fun _ _ _ h => h) (by kernel_rfl) (by kernel_rfl) (.inl ⟨by rfl, fun u hu => ?_⟩) hS ?_
          rotate_left
          · (obtain ⟨u1, u2, u3, u4, u5⟩ := ReS.cells hu; go_simp; first | done | with_reducible rfl)
          simp only [Act.put, List.setIfInBounds_toArray, List.set_cons_zero, List.set_cons_succ]
          refine anyE_take (i := 3) (v := ?_) 66 rfl rfl (by kernel_rfl) (by kernel_rfl) (by decide) (fun _ _ _ h => h) (by kernel_rfl) (by kernel_rfl) (.inl ⟨by rfl, fun u hu => ?_⟩) hS ?_
          rotate_left
          · (obtain ⟨u1, u2, u3, u4, u5⟩ := ReS.cells hu; go_simp; first | done | with_reducible rfl)
          simp only [Act.put, List.setIfInBounds_toArray, List.set_cons_zero, List.set_cons_succ]
          refine anyE_take (i := 4) (v := ?_) 67 rfl rfl (by kernel_rfl) (by kernel_rfl) (by decide) (fun _ _ _ h => h) (by kernel_rfl) (by kernel_rfl) (.inl ⟨by rfl, fun u hu => ?_⟩) hS ?_
          rotate_left
          · (obtain ⟨u1, u2, u3, u4, u5⟩ := ReS.cells hu; go_simp; first | done | with_reducible rfl)
          simp only [Act.put, List.setIfInBounds_toArray, List.set_cons_zero, List.set_cons_succ]
          refine anyE_take (i := 5) (v := ?_) 68 rfl rfl (by kernel_rfl) (by kernel_rfl) (by decide) (fun _ _ _ h => h) (by kernel_rfl) (by kernel_rfl) (.inl ⟨by rfl, fun u hu => ?_⟩) hS ?_
          rotate_left
          · (obtain ⟨u1, u2, u3, u4, u5⟩ := ReS.cells hu; go_simp; first | done | with_reducible rfl)
          simp only [Act.put, List.setIfInBounds_toArray, List.set_cons_zero, List.set_cons_succ]
          refine anyE_one (i := 1) rfl (by kernel_rfl) rfl (fun K hK => ?_)
          go_simp
          refine (renc_ok 1 3 0 nilS (.slice a9 11 c9) es _ (HIt.out.up (Up.refl _).drew) (by have := HEl.out; omega)).mono ?_
          rintro e wb ⟨v12, rfl, hO12, hU12⟩
          dsimp only
          have hSb := ReS.up hS hU12
          have hDb := (Up.refl wa).drew.trans hU12
          refine hK.out _ _ (.inr hSb) ?_
          clear hK
          try simp only [Act.put, List.setIfInBounds_toArray, List.set_cons_zero, List.set_cons_succ]
          refine anyE_one (i := 2) rfl (by kernel_rfl) rfl (fun K hK => ?_)
          go_simp
          refine (rTagged_any coinTag v12 es _ (by decide) hO12.seq (by have := HEl.out; omega) HEb.out).mono ?_
          rintro e wc ⟨rfl, hU13⟩
          dsimp only
          have hSc := ReS.up hSb hU13
          have hDc := hDb.trans hU13
          refine hK.out _ _ (.inr hSc) ?_
          clear hK
          try simp only [Act.put, List.setIfInBounds_toArray, List.set_cons_zero, List.set_cons_succ]
          have HHb := hid (tagB_range (txt coinTag) es)
          generalize tagB (txt coinTag) es = H at *
          refine anyE_one (i := 6) rfl (by kernel_rfl) rfl (fun K hK => ?_)
          go_simp
          refine (rNumber_ok H Q _ HHb.out (by omega) (by omega)).mono ?_
          rintro e wd ⟨rfl, hU14⟩
          dsimp only
          have hSd := ReS.up hSc hU14
          have hDd := hDc.trans hU14
          refine hK.out _ _ (.inr hSd) ?_
          clear hK
          try simp only [Act.put, List.setIfInBounds_toArray, List.set_cons_zero, List.set_cons_succ]
          refine anyE_one (i := 7) rfl (by kernel_rfl) rfl (fun K hK => ?_)
          go_simp
          refine hK.out _ _ (.inl rfl) (anyE_done (by kernel_rfl) ?_ _)
          clear hK
          go_wp2
          go_ret
          exact ⟨congrArg (fun x => Ending.returned (.int .i64 x)) HVn.out.symm, HV9.out.trans hDd⟩
end Go.Proofs.YtdbhleinhpiohaaGreatDoor
