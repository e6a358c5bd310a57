/- The reference's SHA-256: joined, tagged, and the number of a digest. The reference's encoding: a number in bytes. -/
import Derived.Test.YtdlcmpbpdbpanaaGreatDoorMUnlinkExplains36
import Derived.Test.YtdlcmpbpdbpanaaGreatDoorMUnlinkExplains17
import Derived.Test.YtdlcmpbpdbpanaaGreatDoorMUnlinkExplains33
import Derived.Test.YtdlcmpbpdbpanaaGreatDoorMUnlinkExplains11
import Derived.Test.YtdlcmpbpdbpanaaGreatDoorMUnlinkExplains4
import Derived.Test.YtdlcmpbpdbpanaaGreatDoorMUnlinkExplains34
import Derived.Test.YtdlcmpbpdbpanaaGreatDoorMUnlinkExplains40
import Derived.Test.YtdlcmpbpdbpanaaGreatDoorMUnlinkExplains30
namespace Go.Proofs.YtdlcmpbpdbpanaaGreatDoor
open Go.RowKit Go.Sp
set_option maxHeartbeats 4000000
set_option maxRecDepth 20000

/-- Bytes and the first so many of a digest. -/
def joinTo (h : Nat → Int) (xs : List Int) (i : Nat) : List Int := xs ++ (List.range i).map h
theorem joinTo_length (h : Nat → Int) (xs : List Int) (i : Nat) : (joinTo h xs i).length = xs.length + i := by simp [joinTo]
theorem joinTo_succ (h : Nat → Int) (xs : List Int) (i : Nat) : joinTo h xs i ++ [h i] = joinTo h xs (i + 1) := by
  unfold joinTo
  rw [List.range_succ, List.map_append, List.append_assoc]
  rfl

theorem rHJoin_any (v : Value) (xs : List Int) (h : Nat → Int) (w : World) (hv : SeqAt .u8 w v xs) (hl : xs.length ≤ 1099511627000) :
    Calls Tryz.prog 113 #[v, hashV h] w fun e w' => ∃ v', e = .returned v' ∧ OwnS 5 .u8 w' (w.heap.size + 1) v' (xs ++ hList h) ∧ Up w w' := by
  have hget := fun i (hi : i < 32) => arrK_get (k := .u8) (f := h) hi
  have HEnd : Hid (joinTo h xs 32 = xs ++ hList h) := hid rfl
  have HLn := hid (joinTo_length h xs)
  have HSn := hid (joinTo_succ h xs)
  have HZero : Hid ([] ++ xs = joinTo h xs 0) := hid (by simp [joinTo])
  have HV := hid hv
  obtain ⟨n, hn⟩ : ∃ n, xs.length = n := ⟨_, rfl⟩
  obtain ⟨va, vc, rfl, _, _⟩ := hv.shape
  rw [hn] at HV hl HLn
  rw [hn]
  unfold hashV
  generalize arrK .u8 h 32 = cs at *
  have HG := hid hget
  have HXN := hid hn
  clear hget hv hn
  go_enter Tryz.func113, Tryz.ntmps113
  have HB0 := hid ((Blk.new (w := w) (t := 31) (cs := cs) rfl rfl).alloc (.cells #[] 5))
  have hs1 : (w.alloc (.cells cs 31)).heap.size = w.heap.size + 1 := by simp
  have hE := own_empty (e := 5) (k := .u8) (base := w.heap.size + 1) (Blk.new (w := w.alloc (.cells cs 31)) (t := 5) (cs := #[]) hs1 rfl) (Nat.le_refl _)
  have hu2 := ((Up.refl w).alloc (.cells cs 31)).alloc (.cells #[] 5)
  have HS1 := hid hs1
  have HE := hid hE
  have HU2 := hid hu2
  clear hs1 hE hu2
  go_wp2_with (at_builtin; refine wp_app infoU8 Tryz.underlying51 (by omega) rfl _ _ rfl (w.heap.size + 1) (v := .slice (some ⟨w.heap.size + 1, 0, none⟩) 0 0) rfl rfl HE.out (HV.out.up HU2.out) (by have := HXN.out; simp; omega) (by simp) ?_; intro v3 w3 hO3 hg3)
  have hU3 := HU2.out.own HE.out hg3 (by omega)
  have hB3 := HB0.out.below (below_own HE.out hg3 (by simp)) (by omega)
  rw [HZero.out] at hO3
  obtain ⟨p3, k3, rfl, _, _⟩ := hO3.shape
  rw [HLn.out 0, Nat.add_zero] at hO3
  rw [HLn.out 0, Nat.add_zero]
  obtain ⟨o, ho⟩ : ∃ o, w.heap.size = o := ⟨_, rfl⟩
  rw [ho] at hO3 hB3
  rw [ho]
  have HOo := hid ho
  have HO3 := hid hO3
  have HB3 := hid hB3
  have HU3 := hid hU3
  clear ho hO3 hB3 hU3 hg3 HE HU2 HS1 HB0
  go_wp2_with fail
  go_loopw [5, 6] (fun vp vi wr => ∃ (i : Nat) (p : Option Addr) (c : Nat), i ≤ 32 ∧ vi = .int .i64 i ∧ vp = .slice p (n + i) c ∧ Hid (OwnS 5 .u8 wr (o + 1) (.slice p (n + i) c) (joinTo h xs i)) ∧ Hid (Blk wr o 31 cs) ∧ Hid (Up w wr)) (fun _ vi _ => 32 - (intOf vi).toNat)
  case atStart => exact ⟨0, _, _, by omega, rfl, rfl, HO3, HB3, HU3⟩
  case round =>
    clear HO3 HB3 HU3
    obtain ⟨i, p, c, hi, rfl, rfl, HO, HB, HU⟩ := hrel
    by_cases hlt : i < 32
    · have q1 := HB.out.val (HG.out i hlt)
      have HS := hid (HSn.out i)
      have HLi := hid (HLn.out i)
      have HLi1 := hid (HLn.out (i + 1))
      have hbs : o + 1 ≤ wr.heap.size := by have := HB.out.lt; omega
      generalize h i = x at *
      obtain ⟨m, hm⟩ : ∃ m, n + i = m := ⟨_, rfl⟩
      have HM := hid hm
      rw [hm] at HO HLi
      rw [hm]
      have hmn : m ≤ n + 32 := by omega
      clear hm
      go_wp2_with (at_builtin; refine wp_app infoU8 Tryz.underlying51 (by omega) rfl _ _ rfl (o + 1) rfl rfl (HO.out.up ((Up.refl wr).alloc _)) (seq_new _ _ _) (by have := HLi.out; simp; omega) (by simp; omega) ?_; intro v' w' hO' hg')
      have hU' := (HU.out.alloc _).own (HO.out.up ((Up.refl wr).alloc _)) hg' (by have := HOo.out; omega)
      have hB' := (HB.out.alloc _).below (below_own (HO.out.up ((Up.refl wr).alloc _)) hg' (by simp; omega)) (by omega)
      rw [HS.out] at hO'
      obtain ⟨p', k', rfl, _, _⟩ := hO'.shape
      rw [HLi1.out] at hO'
      rw [HLi1.out]
      have HO' := hid hO'
      have HU' := hid hU'
      have HB' := hid hB'
      clear hO' hU' hB' hg' HO HU HB
      go_wp2_with fail
      go_roundw
      case rel => exact ⟨i + 1, p', k', by omega, by go_num, rfl, HO', HB', HU'⟩
      case measure => simp [intOf]; omega
    · have hi32 : i = 32 := by omega
      have HO2 := hid HO.out
      rw [hi32, HEnd.out] at HO2
      rw [hi32]
      clear hi32 HO hlt hi
      go_wp2_with fail
      go_ret
      exact ⟨_, rfl, by rw [HOo.out]; exact HO2.out, HU.out⟩

theorem rTagged_any (s : ByteArray) (v : Value) (xs : List Int) (w : World) (hs1 : s.size ≤ 100) (hv : SeqAt .u8 w v xs) (hl : xs.length ≤ 1099511626000) (hB : ∀ x ∈ xs, 0 ≤ x ∧ x ≤ 255) :
    Calls Tryz.prog 148 #[.string s, v] w fun e w' => e = .returned (hashV (tagB (txt s) xs)) ∧ Up w w' := by
  have HV := hid hv
  have HTx := hid (txt_byt s)
  have HTl := hid (txt_length s)
  obtain ⟨h, hh⟩ : ∃ h, shaB (txt s) = h := ⟨_, rfl⟩
  have Hhb : Hid (∀ i, 0 ≤ h i ∧ h i ≤ 255) := hid (by rw [← hh]; exact shaB_range _)
  have HR : Hid (tagB (txt s) xs = shaB (hList h ++ hList h ++ xs)) := hid (by rw [tagB, hh])
  obtain ⟨R, hR⟩ : ∃ R, tagB (txt s) xs = R := ⟨_, rfl⟩
  rw [hR] at HR
  rw [hR]
  have HS1 := hid (fun w' (v' : Value) (hv' : SeqAt .u8 w' v' (txt s)) => rSum_any v' (txt s) w' hv' (by rw [txt_length]; omega) HTx.out)
  rw [hh] at HS1
  have HS2 := hid (fun w' (v' : Value) (hv' : SeqAt .u8 w' v' (hList h ++ hList h ++ xs)) => rSum_any v' _ w' hv' (by simp [hList_length]; omega) (by
    intro x hx
    simp only [List.mem_append] at hx
    rcases hx with (hx | hx) | hx
    · exact hList_byt Hhb.out x hx
    · exact hList_byt Hhb.out x hx
    · exact hB x hx))
  rw [← HR.out] at HS2
  have hcv := fun w' => run_bytes_of_string (P := Tryz.prog) w' 9 51 5 s Tryz.underlying9 Tryz.underlying51 Tryz.underlying5
  obtain ⟨n, hn⟩ : ∃ n, xs.length = n := ⟨_, rfl⟩
  have HN := hid hn
  obtain ⟨va, vc, rfl, _, _⟩ := hv.shape
  rw [hn] at HV hl
  rw [hn]
  clear hv hh hR hn hB
  go_enter Tryz.func148, Tryz.ntmps148
  go_wp2_with fail
  refine (HS1.out _ _ (seq_text_at s _ _ _ (by simp) cap_ge (cap_le (by omega)))).mono ?_
  rintro e w1 ⟨rfl, hU1⟩
  have hZ1 : Blk w1 w.heap.size 31 (arrK .u8 (fun _ => 0) 32) := (((Blk.new rfl zero32).alloc _).up (Up.refl _).drew).up hU1
  have hU1 := (((Up.refl w).alloc _).alloc _).drew.trans hU1
  obtain ⟨o, ho⟩ : ∃ o, w.heap.size = o := ⟨_, rfl⟩
  have HOo := hid ho
  rw [ho] at hZ1
  rw [ho]
  have l1 := hZ1.lt
  clear hcv ho HS1
  unfold hashV
  go_wp2_with (first | (refine wpList_store_rowTo rfl 31 _ _ rfl rfl _ _ rfl rfl 31 _ (heap_alloc_new _ _) (by rw [arrK_size]; kernel_rfl) (by rw [arrK_size]; rfl) arrK_one ?_; rw [World.setRow_alloc_new]))
  obtain ⟨g, hg⟩ : ∃ g, w1.heap.size = g := ⟨_, rfl⟩
  rw [hg]
  obtain ⟨w2, hw2⟩ : ∃ w2, w1.alloc (.cells (arrK .u8 h 32) 31) = w2 := ⟨_, rfl⟩
  have hG2 : Blk w2 g 31 (arrK .u8 h 32) := by rw [← hw2]; exact Blk.new hg rfl
  have hZ2 : Blk w2 o 31 (arrK .u8 (fun _ => 0) 32) := by rw [← hw2]; exact hZ1.alloc _
  have hU2 : Up w w2 := by rw [← hw2]; exact hU1.alloc _
  rw [hg] at l1
  rw [hw2]
  have HG := hid hG2
  have HZ := hid hZ2
  have HU := hid hU2
  have hsz := hG2.lt
  clear hw2 hZ1 hU1 hG2 hZ2 hU2 hg
  have HLn := hid (hList_length h)
  have hud := (Up.refl w2).drew
  refine region_E (fun w' => Blk w' g 31 (arrK .u8 h 32)) 7 (by kernel_rfl) (HG.out.up hud) fun hS => ?_
  refine anyE_take (i := 4) (v := ?_) 13 rfl rfl (by kernel_rfl) (by kernel_rfl) (by decide) (fun _ _ _ h => h) (by kernel_rfl) (by kernel_rfl) (.inl ⟨by rfl, fun u hu => ?_⟩) hS ?_
  rotate_left
  · (go_simp; first | done | with_reducible rfl)
  simp only [Act.put, List.setIfInBounds_toArray, List.set_cons_succ]
  refine anyE_take (i := 0) (v := .agg (arrK .u8 h 32).toList.toArray) 9 rfl rfl (by kernel_rfl) (by kernel_rfl) (by decide) (fun _ _ _ h => h) (by kernel_rfl) (by kernel_rfl) (yieldsIf_load_mid (by rfl) 31 _ rfl g 0 rfl (arrK .u8 h 32).toList _ (fun u hu => blk_range hu) Tryz.underlying31 rfl (by rw [Array.length_toList, arrK_size]; kernel_rfl)) hS ?_
  rw [Array.toArray_toList]
  simp only [Act.put, List.setIfInBounds_toArray, List.set_cons_succ]
  refine anyE_take (i := 2) (v := .agg (arrK .u8 h 32).toList.toArray) 11 rfl rfl (by kernel_rfl) (by kernel_rfl) (by decide) (fun _ _ _ h => h) (by kernel_rfl) (by kernel_rfl) (yieldsIf_load_mid (by rfl) 31 _ rfl g 0 rfl (arrK .u8 h 32).toList _ (fun u hu => blk_range hu) Tryz.underlying31 rfl (by rw [Array.length_toList, arrK_size]; kernel_rfl)) hS ?_
  rw [Array.toArray_toList]
  simp only [Act.put, List.setIfInBounds_toArray, List.set_cons_succ]
  refine anyE_one (i := 1) rfl (by kernel_rfl) rfl (fun K hK => ?_)
  go_simp
  refine (rHJoin_any _ [] h _ seq_none (by simp)).mono ?_
  rintro e w3 ⟨v3, rfl, hO3, hU3⟩
  dsimp only
  have hD3 := hud.trans hU3
  have hS3 := Blk.up hS hU3
  refine hK.out _ _ (.inr hS3) ?_
  clear hK
  refine anyE_one (i := 3) rfl (by kernel_rfl) rfl (fun K hK => ?_)
  go_simp
  refine (rHJoin_any _ _ h _ hO3.seq (by have := HLn.out; simp; omega)).mono ?_
  rintro e w4 ⟨v4, rfl, hO4, hU4⟩
  dsimp only
  have hD4 := hD3.trans hU4
  have hS4 := Blk.up hS3 hU4
  have hO4 := hO4.mono (base' := w2.heap.size) (by have := hD3.size; omega)
  refine hK.out _ _ (.inr hS4) ?_
  clear hK
  refine anyE_one (i := 5) rfl (by kernel_rfl) rfl (fun K hK => ?_)
  refine op_app infoU8 Tryz.underlying51 (by omega) _ _ rfl w2.heap.size rfl rfl hO4 (HV.out.up (HU.out.trans hD4)) (by have := HLn.out; have := HN.out; simp; omega) hD4.size ?_
  intro v5 w5 hO5 hg5
  have hB5 := below_own hO4 hg5 hD4.size
  have hS5 := hS4.below hB5 hsz
  have hZ5 := (HZ.out.up hD4).below hB5 HZ.out.lt
  have hU5 := (HU.out.trans hD4).own hO4 hg5 HU.out.size
  simp only [Act.put, List.setIfInBounds_toArray]
  refine hK.out _ _ (.inr hS5) ?_
  clear hK
  refine anyE_one (i := 6) rfl (by kernel_rfl) rfl (fun K hK => ?_)
  go_simp
  refine (HS2.out _ _ hO5.seq).mono ?_
  rintro e w6 ⟨rfl, hu6⟩
  dsimp only
  have hZ6 := hZ5.up hu6
  have hU6 := hU5.trans hu6
  refine hK.out _ _ (.inr (Blk.up hS5 hu6)) ?_
  clear hK
  refine anyE_one (i := 7) rfl (by kernel_rfl) rfl (fun K hK => ?_)
  refine op_store_row 31 _ _ rfl rfl o (arrK .u8 R 32) rfl rfl 31 (arrK .u8 (fun _ => 0) 32) hZ6 (by rw [arrK_size]; kernel_rfl) (by rw [arrK_size, arrK_size]) arrK_one ?_
  refine hK.out _ _ (.inl rfl) (anyE_done (by kernel_rfl) ?_ _)
  clear hK
  go_wp2
  refine bodyPost_ret (v := .agg (arrK .u8 R 32)) (results_cell_row rfl _ _ o 31 _ (0, 0) _ (by rfl) (hZ6.row _) Tryz.underlying31 rfl (by rw [arrK_size]; kernel_rfl)) rfl ⟨rfl, hU6.setRow (by have := HOo.out; omega) _⟩

theorem rNumber_ok (h : Nat → Int) (m : Int) (w : World) (hB : Byt h) (m0 : 1 ≤ m) (m1 : m < 2305843009213693952) :
    Calls Tryz.prog 147 #[hashV h, .int .i64 m] w fun e w' => e = .returned (.int .i64 (numH h m)) ∧ Up w w' := by
  have hget := fun i (hi : i < 32) => arrK_get (k := .u8) (f := h) hi
  unfold hashV
  generalize arrK .u8 h 32 = cs at *
  have HG := hid hget
  have HB := hid hB
  have HN : Hid (numH h m = numB h m 16) := hid rfl
  clear hget hB
  have dm : (m == 0) = false := by simp; omega
  have dm2 : m ≠ 0 := by omega
  go_enter Tryz.func147, Tryz.ntmps147
  go_wp2_with fail
  have HB0 := hid (Blk.new (w := w) (t := 31) (cs := cs) rfl rfl)
  have HU0 := hid ((Up.refl w).alloc (.cells cs 31))
  obtain ⟨o, ho⟩ : ∃ o, w.heap.size = o := ⟨_, rfl⟩
  rw [ho] at HB0
  rw [ho]
  clear ho
  go_loopw [5, 6] (fun vx vi wr => ∃ i : Nat, i ≤ 16 ∧ vi = .int .i64 i ∧ vx = .int .i64 (numB h m i) ∧ Hid (Blk wr o 31 cs) ∧ Hid (Up w wr)) (fun _ vi _ => 16 - (intOf vi).toNat)
  case atStart => exact ⟨0, by omega, rfl, rfl, HB0, HU0⟩
  case round =>
    clear HB0 HU0
    obtain ⟨i, hi, rfl, rfl, HBk, HU⟩ := hrel
    by_cases hlt : i < 16
    · have q1 := cupF (HBk.out.val (HG.out i (by omega)))
      have r3 := HB.out i
      obtain ⟨x0, x1⟩ := numB_range (h := h) (m := m) (by omega) i
      have HS : Hid (numB h m (i + 1) = (numB h m i * 256 + h i) % m) := hid rfl
      generalize numB h m i = x at *
      generalize h i = c at *
      have hc0 := r3.1
      have hc1 := r3.2
      have di : decide ((i : Int) < 16) = true := by simp; omega
      have di2 : (i : Int) < 32 := by omega
      clear r3
      have htm : (256 : Int).tmod m = 256 % m := Int.tmod_eq_emod_of_nonneg (by omega)
      have e0 := Int.emod_nonneg 256 dm2
      have e1 := Int.emod_lt_of_pos 256 (show 0 < m by omega)
      have HR := hid (num_ref x c m)
      have p0 := Int.emod_nonneg (x * (256 % m)) dm2
      have p1 := Int.emod_lt_of_pos (x * (256 % m)) (show 0 < m by omega)
      have HM := hid (fun w' => (rMul_ok x (256 % m) m w' x0 x1 e0 e1 m1).mono fun e u h => (⟨h.1, by rw [← h.2]; exact Up.refl _⟩ : e = .returned (.int .i64 (x * (256 % m) % m)) ∧ Up w' u))
      have HD := hid (fun w' => (rReduce_ok (x * (256 % m) % m + c) m w' (by omega) (by omega) m0 m1).mono fun e u h => (⟨h.1, by rw [← h.2]; exact Up.refl _⟩ : e = .returned (.int .i64 ((x * (256 % m) % m + c) % m)) ∧ Up w' u))
      rw [HR.out] at HD
      generalize x * (256 % m) % m = z at *
      generalize 256 % m = y at *
      go_wp2_with fail
      refine wp_region_up (by kernel_rfl) (by kernel_rfl) ?_
      repeat (go_big_quiet_step ((first | (exact Calls.up_of (HM.out _)) | (exact Calls.up_of (HD.out _)))))
      refine wpQuiet_nil ?_
      rintro _ ⟨p, rfl⟩
      go_wp2_with fail
      go_roundw
      case rel => exact ⟨i + 1, by omega, by go_num, by rw [HS.out], hid (HBk.out.up p.up), hid (HU.out.trans p.up)⟩
      case measure => simp [intOf]; omega
    · obtain rfl : i = 16 := by omega
      go_wp2
      go_ret
      exact ⟨by rw [HN.out]; rfl, HU.out⟩
end Go.Proofs.YtdlcmpbpdbpanaaGreatDoor
namespace Go.Proofs.YtdlcmpbpdbpanaaGreatDoor
open Go.RowKit Go.Sp
set_option maxHeartbeats 4000000
set_option maxRecDepth 20000

/-- The last so many are filled. -/
def bfill (f : Nat → Int) (n s : Nat) : Nat → Int := fun j => if n ≤ j + s then f j else 0
theorem bfill_zero (k : IntKind) (f : Nat → Int) (n : Nat) : arrK k (fun _ => 0) n = arrK k (bfill f n 0) n := arrK_congr fun j hj => by
  rw [bfill, if_neg (by omega)]
theorem bfill_all (k : IntKind) (f : Nat → Int) (n : Nat) : arrK k (bfill f n n) n = arrK k f n := arrK_congr fun j _ => by
  rw [bfill, if_pos (by omega)]
theorem bfill_put (k : IntKind) (f : Nat → Int) (n s i : Nat) (hi : i + 1 + s = n) : (arrK k (bfill f n s) n).setIfInBounds i (.int k (f i)) = arrK k (bfill f n (s + 1)) n := by
  rw [arrK_set]
  refine arrK_congr fun t _ => ?_
  unfold bfill
  by_cases h : t = i
  · subst h
    rw [if_pos rfl, if_pos (by omega)]
  · have e1 : (n ≤ t + (s + 1)) ↔ (n ≤ t + s) := by omega
    simp [h, e1]
theorem bfill_at {k : IntKind} {f : Nat → Int} {n s i : Nat} (hi : i + 1 + s = n) : (arrK k (bfill f n s) n)[i]? = some (.int k 0) := by
  rw [arrK_get (by omega), bfill, if_neg (by omega)]

theorem div_256 (n : Int) (s : Nat) : n / 2 ^ (8 * s) / 256 = n / 2 ^ (8 * (s + 1)) := by
  rw [show 8 * (s + 1) = 8 * s + 8 by omega, Int.pow_add, ← Int.ediv_ediv_of_nonneg (Int.le_of_lt (Int.pow_pos (by decide)))]
  rfl

theorem renc_number (n : Int) (size : Nat) (w : World) (h0 : 0 ≤ n) (h1 : n ≤ 18446744073709551615) (hs1 : 1 ≤ size) (hs8 : size ≤ 8)
    (hmk : ∀ W, (Instr.makeSlice 51 (.int .i64 size) (.int .i64 size)).run Tryz.prog W = .ok (.slice (some ⟨W.heap.size, 0, none⟩) size size) (W.alloc (.cells (arrK .u8 (fun _ => 0) size) 5))) :
    Calls Tryz.prog 200 #[.int .u64 n, .int .i64 size] w fun e w' => ∃ v, e = .returned v ∧ OwnS 5 .u8 w' w.heap.size v (beL size n) ∧ Up w w' := by
  obtain ⟨f, hf⟩ : ∃ f : Nat → Int, (fun i => n / 2 ^ (8 * (size - 1 - i)) % 256) = f := ⟨_, rfl⟩
  have HL : Hid (beL size n = (List.range size).map f) := hid (by rw [← hf]; rfl)
  have HF := hid hf
  have HX : Hid (n / 2 ^ (8 * 0) = n) := hid (by simp)
  have HDiv := hid (div_256 n)
  have HNn : Hid (∀ s, 0 ≤ n / 2 ^ (8 * s) ∧ n / 2 ^ (8 * s) ≤ n) := hid fun s => ⟨Int.ediv_nonneg h0 (Int.le_of_lt (Int.pow_pos (by decide))), Int.ediv_le_self _ h0⟩
  clear hf
  go_enter Tryz.func200, Tryz.ntmps200
  go_wp2_with fail
  clear hmk
  obtain ⟨o, ho⟩ : ∃ o, w.heap.size = o := ⟨_, rfl⟩
  rw [ho]
  have hb0 : Blk (w.alloc (.cells (arrK .u8 (fun _ => 0) size) 5)) o 5 (arrK .u8 (bfill f size 0) size) := Blk.new ho (bfill_zero _ _ _)
  go_loopw [0, 6] (fun vn vi wr => ∃ s : Nat, s ≤ size ∧ vi = .int .i64 ((size : Int) - 1 - s) ∧ vn = .int .u64 (n / 2 ^ (8 * s)) ∧ Hid (Blk wr o 5 (arrK .u8 (bfill f size s) size)) ∧ Hid (Up w wr)) (fun _ vi _ => (intOf vi + 1).toNat)
  case atStart => exact ⟨0, by omega, by simp, by rw [HX.out], hid hb0, hid ((Up.refl w).alloc _)⟩
  case round =>
    have HOo := hid ho
    clear ho hb0
    obtain ⟨s, hs, rfl, rfl, HB, HU⟩ := hrel
    by_cases hlt : s < size
    · obtain ⟨i, hi⟩ : ∃ i : Nat, i + 1 + s = size := ⟨size - 1 - s, by omega⟩
      have q1 := HB.out.val (bfill_at hi)
      have q2 := HB.out.thawed i
      have HP := hid (bfill_put .u8 f size s i hi)
      have HFI : Hid (f i = n / 2 ^ (8 * s) % 256) := hid (by rw [← HF.out]; show n / 2 ^ (8 * (size - 1 - i)) % 256 = _; rw [show size - 1 - i = s by omega])
      have HD := hid (HDiv.out s)
      obtain ⟨n0, n1⟩ := HNn.out s
      rw [show (size : Int) - 1 - s = i by omega]
      generalize n / 2 ^ (8 * s) = x at *
      go_wp2_with fail
      go_roundw
      case rel => exact ⟨s + 1, by omega, congrArg (Value.int .i64) (by omega), by rw [← HD.out], hid (by rw [← HP.out, HFI.out]; exact HB.out.wrote _ _), hid (HU.out.setCell (by have := HOo.out; show w.heap.size ≤ o; omega) _)⟩
      case measure => simp [intOf]
    · have hss : s = size := by omega
      have HB2 := hid HB.out
      rw [hss, bfill_all] at HB2
      rw [show (size : Int) - 1 - s = -1 by omega]
      clear HB hss hlt hs
      go_wp2
      go_ret
      exact ⟨_, rfl, by rw [HL.out]; exact HB2.out.own (by have := HOo.out; omega) (by omega), HU.out⟩

theorem renc_four (n : Int) (w : World) (h0 : 0 ≤ n) (h1 : n ≤ 18446744073709551615) :
    Calls Tryz.prog 200 #[.int .u64 n, .int .i64 4] w fun e w' => ∃ v, e = .returned v ∧ OwnS 5 .u8 w' w.heap.size v (beL 4 n) ∧ Up w w' :=
  renc_number n 4 w h0 h1 (by omega) (by omega) fun _ => by kernel_rfl
theorem renc_eight (n : Int) (w : World) (h0 : 0 ≤ n) (h1 : n ≤ 18446744073709551615) :
    Calls Tryz.prog 200 #[.int .u64 n, .int .i64 8] w fun e w' => ∃ v, e = .returned v ∧ OwnS 5 .u8 w' w.heap.size v (beL 8 n) ∧ Up w w' :=
  renc_number n 8 w h0 h1 (by omega) (by omega) fun _ => by kernel_rfl
end Go.Proofs.YtdlcmpbpdbpanaaGreatDoor
