/- Package digest: Tagged. Package draw: sources as values; Valid, position, first. Digests and sources among the arguments; the tables of package digest. -/
import Derived.Test.YtdlcmpbpdbpanaaDoorMSignatureFits11
import Derived.Test.YtdlcmpbpdbpanaaDoorMSignatureFits8
import Derived.Deep.RegionHeld3
namespace Go.Proofs.YtdlcmpbpdbpanaaDoor
open Go.RowKit Go.Sp
set_option maxHeartbeats 2000000
set_option maxRecDepth 20000

theorem hashV_seq {w : World} {g : Nat} {t : TypeId} {h : Nat → Int} (hb : Blk w g t (arrK .u8 h 32)) : SeqAt .u8 w (.slice (some ⟨g, 0, none⟩) 32 32) (hList h) := by
  have := hb.seq 0 32 32 (by omega) (by omega) (by omega)
  simpa [hList] using this

theorem hList_byt {h : Nat → Int} (hb : ∀ i, 0 ≤ h i ∧ h i ≤ 255) : ∀ x ∈ hList h, 0 ≤ x ∧ x ≤ 255 := by
  intro x hx
  simp only [hList, List.mem_map] at hx
  obtain ⟨i, _, rfl⟩ := hx
  exact hb i

theorem Tagged_any (s : ByteArray) (v : Value) (xs : List Int) (w : World) (hT : TabS w) (hs0 : 1 ≤ s.size) (hs1 : s.size ≤ 100) (hv : SeqAt .u8 w v xs) (hl : xs.length ≤ 1099511626000) (hB : ∀ x ∈ xs, 0 ≤ x ∧ x ≤ 255) :
    Calls Tryd.prog 65 #[.string s, v] w fun e w' => e = .returned (.tuple #[hashV (tagB (txt s) xs), .int .i64 0]) ∧ Up w w' := by
  have HT := hid hT
  have HV := hid hv
  have HTx := hid (txt_byt s)
  have HTl := hid (txt_length s)
  obtain ⟨h, hh⟩ : ∃ h, shaB (txt s) = h := ⟨_, rfl⟩
  have HH := hid hh
  have Hhb : Hid (∀ i, 0 ≤ h i ∧ h i ≤ 255) := hid (by rw [← hh]; exact shaB_range _)
  have HR : Hid (tagB (txt s) xs = shaB (hList h ++ hList h ++ xs)) := hid (by rw [tagB, hh])
  obtain ⟨R, hR⟩ : ∃ R, tagB (txt s) xs = R := ⟨_, rfl⟩
  rw [hR] at HR
  rw [hR]
  have HS1 := hid (fun w' (v' : Value) (hU : Up w w') (hv' : SeqAt .u8 w' v' (txt s)) => Sum_any v' (txt s) w' (HT.out.up hU) hv' (by rw [txt_length]; omega) HTx.out)
  rw [hh] at HS1
  have HS2 := hid (fun w' (v' : Value) (hU : Up w w') (hv' : SeqAt .u8 w' v' (hList h ++ hList h ++ xs)) => Sum_any v' _ w' (HT.out.up hU) hv' (by simp [hList_length]; omega) (by
    intro x hx
    simp only [List.mem_append] at hx
    rcases hx with (hx | hx) | hx
    · exact hList_byt Hhb.out x hx
    · exact hList_byt Hhb.out x hx
    · exact hB x hx))
  rw [← HR.out] at HS2
  have hcv := fun w' => run_bytes_of_string (P := Tryd.prog) w' 9 31 5 s Tryd.underlying9 Tryd.underlying31 Tryd.underlying5
  obtain ⟨n, hn⟩ : ∃ n, xs.length = n := ⟨_, rfl⟩
  have HN := hid hn
  obtain ⟨va, vc, rfl, _, _⟩ := hv.shape
  rw [hn] at HV hl
  rw [hn]
  clear hT hv hh hR hn hB
  go_enter Tryd.func65, Tryd.ntmps65
  go_wp2_with fail
  refine (HS1.out _ _ (((Up.refl w).alloc _).alloc _).drew (seq_text_at s _ _ _ (by simp) cap_ge (cap_le (by omega)))).mono ?_
  rintro e w1 ⟨rfl, hU1⟩
  have hZ1 : Blk w1 w.heap.size 23 (arrK .u8 (fun _ => 0) 32) := (((Blk.new rfl zero32).alloc _).up (Up.refl _).drew).up hU1
  have hU1 := (((Up.refl w).alloc _).alloc _).drew.trans hU1
  obtain ⟨o, ho⟩ : ∃ o, w.heap.size = o := ⟨_, rfl⟩
  have HOo := hid ho
  rw [ho] at hZ1
  rw [ho]
  have l1 := hZ1.lt
  clear hcv ho HS1
  unfold hashV
  go_wp2_with (first | (refine wpList_store_rowTo rfl 23 _ _ rfl rfl _ _ rfl rfl 23 _ (heap_alloc_new _ _) (by rw [arrK_size]; kernel_rfl) (by rw [arrK_size]; rfl) arrK_one ?_; rw [World.setRow_alloc_new]))
  obtain ⟨g, hg⟩ : ∃ g, w1.heap.size = g := ⟨_, rfl⟩
  rw [hg]
  obtain ⟨w2, hw2⟩ : ∃ w2, w1.alloc (.cells (arrK .u8 h 32) 23) = w2 := ⟨_, rfl⟩
  have hG2 : Blk w2 g 23 (arrK .u8 h 32) := by rw [← hw2]; exact Blk.new hg rfl
  have hZ2 : Blk w2 o 23 (arrK .u8 (fun _ => 0) 32) := by rw [← hw2]; exact hZ1.alloc _
  have hU2 : Up w w2 := by rw [← hw2]; exact hU1.alloc _
  rw [hg] at l1
  rw [hw2]
  have HG := hid (hashV_seq hG2)
  have HZ := hid hZ2
  have HU := hid hU2
  have hsz := hG2.lt
  clear hw2 hZ1 hU1 hG2 hZ2 hU2 hg
  have HLn := hid (hList_length h)
  have hwz := HU.out.size
  obtain ⟨cs, hcs⟩ : ∃ cs, (arrK .u8 R 32).toList = cs := ⟨_, rfl⟩
  have hV : hashV R = .agg cs.toArray := by rw [← hcs]; rfl
  have HCs := hid hV
  rw [hV] at HS2
  have hcl : cs.length = 32 := by rw [← hcs]; simp [arrK]
  have hci : (Tryd.prog.info? 23).map (·.size) = some cs.length := by rw [hcl]; kernel_rfl
  have hco : ∀ v ∈ cs, v.oneCell' = true := by
    rw [← hcs]
    intro v hv
    have := Array.all_eq_true_iff_forall_mem.1 (arrK_one (k := .u8) (f := R) (n := 32)) v (by simpa using hv)
    exact this
  clear hV hcs
  have hS0 := anyW w2
  have hS1 := anyW w2.drew
  go_region_held3 AnyW (exact anyW _) (first
    | (go_at_call 71; refine (bClone_any _ (hList h) _ (HG.out.up (by first | exact (Up.refl _).drew | exact Up.refl _ | exact (Up.refl _).drew.drew)) (by rw [hList_length]; omega)).mono ?_; rintro e w3 ⟨v3, rfl, hO3, hU3⟩; have hD3 := Up.trans (by first | exact (Up.refl w2).drew | exact Up.refl w2 | exact (Up.refl w2).drew.drew) hU3)
    | (refine step_app infoU8 Tryd.underlying31 (by omega) (by rfl) _ _ (by rfl) w2.heap.size (by rfl) (by rfl) hO3 (HG.out.up hD3) (by have := HLn.out; omega) hD3.size ?_; intro v4 w4 hO4 hg4; have hU4 := (HU.out.trans hD3).own hO3 hg4 hwz; have hB4 := below_own hO3 hg4 hD3.size)
    | (refine step_app infoU8 Tryd.underlying31 (by omega) (by rfl) _ _ (by rfl) w2.heap.size (by rfl) (by rfl) hO4 (HV.out.up hU4) (by have := HLn.out; have := HN.out; simp; omega) (by have := hB4.size; have := hD3.size; omega) ?_; intro v5 w5 hO5 hg5; have hU5 := hU4.own hO4 hg5 hwz; have hB5 := below_own hO4 hg5 (by have := hB4.size; have := hD3.size; omega))
    | (go_at_call 25; refine (HS2.out _ _ (by first | exact hU5 | exact hU5.drew) (by first | exact hO5.seq | exact hO5.seq.up (Up.refl _).drew)).mono ?_; rintro e w6 ⟨rfl, hU6⟩; have hZ6 := (((HZ.out.up hD3).below hB4 HZ.out.lt).below hB5 HZ.out.lt).up hU6; have hth : w6.there o 0 32 := hZ6.there (by rw [arrK_size]; omega)))
  have hZ7 := hZ6.mid cs (by rw [arrK_size, hcl])
  have hU7 := Up.setCells (g := o) (by have := HOo.out; omega) cs 0 (hU5.trans hU6)
  clear hO3 hU3 hD3 hO4 hg4 hU4 hB4 hO5 hg5 hU5 hB5 hU6 hZ6 hth
  go_wp2
  refine bodyPost_ret (v := .tuple #[.agg cs.toArray, .int .i64 0]) (results_row_tmp Tryd.results65 _ _ o 23 _ (0, 0) _ (by rfl) hZ7 Tryd.underlying23 rfl (by rw [hci]; simp)) rfl ⟨by rw [HCs.out], hU7⟩
end Go.Proofs.YtdlcmpbpdbpanaaDoor
namespace Go.Proofs.YtdlcmpbpdbpanaaDoor
open Go.RowKit Go.Sp
set_option maxHeartbeats 2000000
set_option maxRecDepth 20000

/-- The cells of a source: the seed, and the counter. -/
def drwA (h : Nat → Int) (c : Int) : Array Value := (arrK .u8 h 32).push (.int .i64 c)
/-- A source as a value. -/
def drw (h : Nat → Int) (c : Int) : Value := .agg (drwA h c)
theorem drwA_size (h : Nat → Int) (c : Int) : (drwA h c).size = 33 := by simp [drwA, arrK_size]
theorem drwA_ctr (h : Nat → Int) (c : Int) : (drwA h c)[32]? = some (.int .i64 c) := by
  have : (arrK .u8 h 32).size = 32 := arrK_size
  rw [drwA, Array.getElem?_push, if_pos (by rw [this])]
theorem drwA_get (h : Nat → Int) (c : Int) {i : Nat} (hi : i < 32) : (drwA h c)[i]? = some (.int .u8 (h i)) := by
  have : (arrK .u8 h 32).size = 32 := arrK_size
  rw [drwA, Array.getElem?_push, if_neg (by rw [this]; omega), arrK_get hi]
theorem drwA_one (h : Nat → Int) (c : Int) : (drwA h c).all (·.oneCell') = true := by
  rw [drwA, Array.all_push, arrK_one]
  rfl

/-- Is a source valid? -/
def dvB (c : Int) : Bool := decide (0 ≤ c) && decide (c ≤ 1099511627776)
theorem dvB_iff {c : Int} : dvB c = true ↔ 0 ≤ c ∧ c ≤ 1099511627776 := by simp [dvB]

theorem draValid_any (h : Nat → Int) (c : Int) (w : World) : Calls Tryd.prog 14 #[drw h c] w fun e w' => e = .returned (.bool (dvB c)) ∧ Up w w' := by
  have HB : Hid (dvB c = (decide (0 ≤ c) && decide (c ≤ 1099511627776))) := hid rfl
  generalize dvB c = X at *
  have hq := drwA_ctr h c
  unfold drw
  generalize drwA h c = cs at *
  by_cases c1 : c ≥ 0
  case neg =>
    have d1 : decide (c ≥ 0) = false := by simpa using c1
    have hX : X = false := by rw [HB.out, show decide (0 ≤ c) = false from d1]; rfl
    subst hX
    clear c1
    go_enter Tryd.func14, Tryd.ntmps14
    go_wp2
    go_ret
    exact ⟨rfl, (Up.refl w).alloc _⟩
  have d1 : decide (c ≥ 0) = true := by simpa using c1
  have HB2 : Hid (X = decide (c ≤ 1099511627776)) := hid (by rw [HB.out, show decide (0 ≤ c) = true from d1]; rfl)
  clear HB
  go_enter Tryd.func14, Tryd.ntmps14
  go_wp2
  go_ret
  exact ⟨by rw [HB2.out]; rfl, (Up.refl w).alloc _⟩

/-- The bytes of a source: the seed, and the counter. -/
def posL (h : Nat → Int) (c : Int) : List Int := hList h ++ beL 8 c
theorem posL_length (h : Nat → Int) (c : Int) : (posL h c).length = 40 := by simp [posL, hList_length, beL_length]

theorem beL_take (c : Int) (k : Nat) (hk : k < 8) : (beL 8 c).take (k + 1) = (beL 8 c).take k ++ [c / 2 ^ (56 - 8 * k) % 256] := by
  rw [List.take_add_one]
  congr 1
  have : k < (beL 8 c).length := by rw [beL_length]; exact hk
  rw [List.getElem?_eq_getElem this]
  simp [beL, show 56 - 8 * k = 8 * (7 - k) by omega]

theorem seedAt {w : World} {b : Nat} {t : TypeId} {h : Nat → Int} {cs : Array Value} (hb : Blk w b t cs) (hc : ∀ i, i < 32 → cs[i]? = some (.int .u8 (h i))) : SeqAt .u8 w (.slice (some ⟨b, 0, none⟩) 32 32) (hList h) :=
  seq_block hb (hList h) 0 32 32 (hList_length h) (Nat.le_refl _) (by decide) fun i hi => by
    rw [Nat.zero_add, hc i hi]
    simp [hList, hi]

theorem position_any (h : Nat → Int) (c : Int) (w : World) :
    Calls Tryd.prog 66 #[drw h c] w fun e w' => ∃ v, e = .returned v ∧ OwnS 5 .u8 w' w.heap.size v (posL h c) ∧ Up w w' := by
  have hq := drwA_ctr h c
  have hget := fun i (hi : i < 32) => drwA_get h c hi
  unfold drw
  generalize drwA h c = cs at *
  have HG := hid hget
  have HQ := hid hq
  have HT := hid (beL_take c)
  have HL := hid (hList_length h)
  obtain ⟨S, hS⟩ : ∃ S, hList h = S := ⟨_, rfl⟩
  have HSd := hid (fun (w : World) (b : Nat) (t : TypeId) (hb : Blk w b t cs) => seedAt hb hget)
  rw [hS] at HL HSd
  have HP : Hid (posL h c = S ++ beL 8 c) := hid (by rw [posL, hS])
  clear hget hq hS
  go_enter Tryd.func66, Tryd.ntmps66
  go_wp2_with (at_builtin; refine wp_app infoU8 Tryd.underlying31 (by omega) rfl _ _ rfl (w.heap.size + 1) rfl rfl (own_empty (Blk.new (by simp) rfl) (Nat.le_refl _)) (HSd.out _ w.heap.size 25 (((Blk.new rfl rfl).alloc _))) (by have := HL.out; simp; omega) (by simp) ?_; intro v1 w1 hO1 hg1)
  have hB1 : Blk w1 w.heap.size 25 cs := by
    refine Blk.below (B := w.heap.size + 1) ((Blk.new rfl rfl).alloc _) (below_own (own_empty (e := 5) (k := .u8) (Blk.new (by simp) rfl) (Nat.le_refl _)) hg1 (by simp)) (by omega)
  have hU1 : Up w w1 := Up.own (((Up.refl w).alloc _).alloc _) (own_empty (e := 5) (k := .u8) (base := w.heap.size + 1) (Blk.new (by simp) rfl) (Nat.le_refl _)) hg1 (by omega)
  obtain ⟨o, ho⟩ : ∃ o, w.heap.size = o := ⟨_, rfl⟩
  rw [ho] at hB1 hO1
  rw [ho]
  have HOo := hid ho
  obtain ⟨n, hn⟩ : ∃ n, n = 32 := ⟨_, rfl⟩
  have HN := hid hn
  have HLen : Hid (∀ k, k ≤ 8 → (S ++ (beL 8 c).take k).length = n + k) := hid (fun k hk => by
    rw [List.length_append, HL.out, HN.out, List.length_take, beL_length]
    omega)
  rw [show ([] ++ S : List Int) = S ++ (beL 8 c).take 0 by simp] at hO1
  obtain ⟨p1, k1, rfl, _, _⟩ := hO1.shape
  have hl0 : (S ++ (beL 8 c).take 0).length = n := HLen.out 0 (by omega)
  rw [hl0] at hO1
  rw [hl0]
  clear hl0
  have HO1 := hid hO1
  have HB1 := hid hB1
  have HU1 := hid hU1
  have hnn : n ≤ 32 := by omega
  obtain ⟨i0, hi0⟩ : ∃ i0 : Int, i0 = 56 := ⟨_, rfl⟩
  have HI0 := hid hi0
  rw [← hi0]
  clear hO1 hB1 hU1 hg1 ho hn hi0
  go_loopw [3, 4] (fun vp vi wr => ∃ (k : Nat) (p : Option Addr) (cp : Nat) (j : Int), k ≤ 8 ∧ vi = .int .i64 j ∧ vp = .slice p (n + k) cp ∧ Hid (j = 56 - 8 * (k : Int)) ∧ Hid (OwnS 5 .u8 wr (o + 1) (.slice p (n + k) cp) (S ++ (beL 8 c).take k)) ∧ Hid (Blk wr o 25 cs) ∧ Hid (Up w wr)) (fun _ vi _ => (intOf vi + 8).toNat)
  case atStart => exact ⟨0, _, _, _, by omega, rfl, rfl, hid (by rw [HI0.out]; rfl), HO1, HB1, HU1⟩
  case round =>
    clear HO1 HB1 HU1 HI0
    obtain ⟨k, p, cp, j, hk, rfl, rfl, HJ, HO, HB, HU⟩ := hrel
    have hsz : o + 1 ≤ wr.heap.size := by have := HB.out.lt; omega
    by_cases hlt : k < 8
    · have hj := HJ.out
      have hj0 : 0 ≤ j := by omega
      have hj1 : j ≤ 56 := by omega
      have HJ2 : Hid (j.toNat = 56 - 8 * k) := hid (by omega)
      have HLk := hid (HLen.out k (by omega))
      have HLk1 := hid (HLen.out (k + 1) (by omega))
      have HTk : Hid (S ++ (beL 8 c).take k ++ [c / 2 ^ j.toNat % 256] = S ++ (beL 8 c).take (k + 1)) := hid (by rw [HT.out k hlt, HJ2.out, List.append_assoc])
      have q1 := HB.out.val HQ.out
      clear hj
      have d0 : decide (j ≥ 0) = true := by simpa using hj0
      obtain ⟨m, hme⟩ : ∃ m, n + k = m := ⟨_, rfl⟩
      have HM := hid hme
      have hm : m ≤ 40 := by omega
      rw [hme] at HO HLk
      rw [hme]
      clear hme
      go_wp2_with (at_builtin; refine wp_app infoU8 Tryd.underlying31 (by omega) rfl _ _ rfl (o + 1) rfl rfl (HO.out.up ((Up.refl wr).alloc _)) (seq_new _ _ _) (by have := HLk.out; simp; simp at this; omega) (by simp; omega) ?_; intro v' w' hO' hg')
      have hU' := (HU.out.alloc _).own (HO.out.up ((Up.refl wr).alloc _)) hg' (by have := HOo.out; omega)
      have hB' := (HB.out.alloc _).below (below_own (HO.out.up ((Up.refl wr).alloc _)) hg' (by simp; omega)) (by omega)
      rw [HTk.out] at hO'
      obtain ⟨p', k', rfl, _, _⟩ := hO'.shape
      rw [HLk1.out] at hO'
      rw [HLk1.out]
      have HO' := hid hO'
      have HB' := hid hB'
      have HU' := hid hU'
      have HJ3 : Hid (j - 8 = 56 - 8 * ((k + 1 : Nat) : Int)) := hid (by have := HJ.out; omega)
      clear hO' hB' hU' hg'
      go_roundw
      case rel => exact ⟨k + 1, _, _, _, by omega, rfl, rfl, HJ3, HO', HB', HU'⟩
      case measure => simp [intOf]; omega
    · obtain rfl : k = 8 := by omega
      have hj := HJ.out
      have hj0 : ¬ 0 ≤ j := by omega
      have d0 : decide (j ≥ 0) = false := by simpa using hj0
      have HE : Hid (S ++ (beL 8 c).take 8 = posL h c) := hid (by rw [HP.out, List.take_of_length_le (by rw [beL_length]; omega)])
      clear hj hj0
      go_wp2
      go_ret
      exact ⟨_, rfl, by rw [← HE.out]; exact HO.out.mono (by have := HOo.out; omega), HU.out⟩
end Go.Proofs.YtdlcmpbpdbpanaaDoor
namespace Go.Proofs.YtdlcmpbpdbpanaaDoor
open Go.ChangeShapes Go.WideShapes Go.ChangeAt Go.RowKit Go.Sp

theorem cellsHash : Tryd.prog.cellsOf 23 = 32 := by kernel_rfl

/-- The number in a cell. -/
def intC : Option Value → Int
  | some (.int _ n) => n
  | _ => 0

theorem hash_cells {H : Type} {enc : TypeId × Value → H} {base : Nat} {spare : Nat → Bool} {held : Bool} {w : World} {fuel : Nat} {cs : List Value} {x : DataW H × List MemPlace}
    (h : DataW.trod enc Tryd.prog w base spare held fuel 23 cs = some x) : ∃ root : Nat → Int, cs = (arrK .u8 root 32).toList ∧ Byt root := by
  obtain ⟨xs, m, rfl, hx, hl, hxl, hf⟩ := DataW.trod_array Tryd.underlying23 h
  have hl32 : cs.length = 32 := hl.trans cellsHash
  have hone : ∀ i, i < 32 → ∃ a, cs[i]? = some (.int .u8 a) ∧ 0 ≤ a ∧ a ≤ 255 := fun i hi => by
    have h1 := hf i hi
    rw [cellsU8, Nat.mul_one, List.drop_eq_getElem_cons (by omega), List.take_succ_cons, List.take_zero] at h1
    have hy : xs[i]? = some (xs[i]'(by omega)) := List.getElem?_eq_getElem (by omega)
    rw [hy] at h1
    obtain ⟨a, e0, _, wa⟩ := DataW.trod_int Tryd.underlying5 h1
    have e1 := (List.cons.inj e0).1
    rw [List.getElem?_eq_getElem (by omega), e1]
    have := bounds_u8 wa
    exact ⟨a, rfl, this.1, this.2⟩
  refine ⟨fun i => intC cs[i]?, ?_, fun i => ?_⟩
  · apply List.ext_getElem?
    intro i
    rw [show (arrK .u8 (fun i => intC cs[i]?) 32).toList[i]? = (arrK .u8 (fun i => intC cs[i]?) 32)[i]? from Array.getElem?_toList]
    by_cases hi : i < 32
    · obtain ⟨a, ha, _⟩ := hone i hi
      rw [arrK_get hi, ha]
      rfl
    · rw [List.getElem?_eq_none (by omega), Array.getElem?_eq_none (by rw [arrK_size]; omega)]
  · by_cases hi : i < 32
    · obtain ⟨a, ha, h0, h1⟩ := hone i hi
      show 0 ≤ intC cs[i]? ∧ intC cs[i]? ≤ 255
      rw [ha]
      exact ⟨h0, h1⟩
    · show 0 ≤ intC cs[i]? ∧ intC cs[i]? ≤ 255
      rw [List.getElem?_eq_none (by omega)]
      exact ⟨Int.le_refl _, by decide⟩

set_option maxRecDepth 100000 in
/-- A digest among the arguments. -/
theorem open_hash {H : Type} {enc : TypeId × Value → H} {r : Reach} {b0 base : Nat} {spare : Nat → Bool} {held : Bool} {w : World} {v : Value} {d : DataW H} {p : List MemPlace}
    (hv : Value.okWide Tryd.prog w r b0 23 v) (h : DataW.Trod enc Tryd.prog w base spare held 23 v d p) : ∃ root : Nat → Int, v = hashV root ∧ Byt root := by
  simp only [Value.okWide, Tryd.underlying23] at hv
  obtain ⟨cs, rfl, hsz, _⟩ := hv
  obtain ⟨fuel, hf⟩ := h
  obtain ⟨root, h1, h2⟩ := hash_cells hf
  refine ⟨root, ?_, h2⟩
  have h1 : cs.toList = (arrK .u8 root 32).toList := h1
  rw [Array.toList_inj.1 h1]
  rfl

set_option maxRecDepth 100000 in
/-- A source among the arguments. -/
theorem open_draw {H : Type} {enc : TypeId × Value → H} {r : Reach} {b0 base : Nat} {spare : Nat → Bool} {held : Bool} {w : World} {v : Value} {d : DataW H} {p : List MemPlace}
    (hv : Value.okWide Tryd.prog w r b0 25 v) (h : DataW.Trod enc Tryd.prog w base spare held 25 v d p) : ∃ (seed : Nat → Int) (c : Int), v = drw seed c ∧ Byt seed ∧ -9223372036854775808 ≤ c ∧ c ≤ 9223372036854775807 := by
  obtain ⟨cs, rfl, hsz⟩ := okWide_struct Tryd.underlying25 hv
  have hC : Tryd.prog.cellsOf 25 = 33 := by kernel_rfl
  rw [hC] at hsz
  obtain ⟨fuel, hf⟩ := h
  obtain ⟨xs, n, _, hx, _, hlen, hg⟩ := DataW.trod_struct Tryd.underlying25 hf
  match xs, hlen with
  | [y0, y1], _ =>
    have f0 := hg 0 _ rfl
    have f1 := hg 1 _ rfl
    simp [Value.cells, cellsInt, cellsHash] at f0 f1
    obtain ⟨root, h1, h2⟩ := hash_cells f0
    obtain ⟨a, e0, _, wa⟩ := DataW.trod_int Tryd.underlying3 f1
    have hb := bounds_i64 wa
    refine ⟨root, a, ?_, h2, hb.1, hb.2⟩
    have e2 : cs.toList = (drwA root a).toList := by
      rw [← List.take_append_drop 32 cs.toList]
      have e3 : cs.toList.drop 32 = [.int .i64 a] := by
        have hl : (cs.toList.drop 32).length = 1 := by simp [hsz]
        rw [← e0, List.take_of_length_le (by omega)]
      rw [e3, h1]
      simp [drwA]
    rw [Array.toList_inj.1 e2]
    rfl

theorem gStart : Tryd.prog.globalNamed "specie/digest.start" = some 0 := by kernel_rfl
theorem gStartType : (Tryd.prog.globals[0]?).map (·.type) = some 123 := by kernel_rfl
theorem gConst : Tryd.prog.globalNamed "specie/digest.constants" = some 1 := by kernel_rfl
theorem gConstType : (Tryd.prog.globals[1]?).map (·.type) = some 178 := by kernel_rfl
theorem cellsU32 : Tryd.prog.cellsOf 122 = 1 := by kernel_rfl
theorem cellsStart : Tryd.prog.cellsOf 123 = 8 := by kernel_rfl
theorem cellsConst : Tryd.prog.cellsOf 178 = 64 := by kernel_rfl

abbrev laidSha : List (String × DataW Unit) := [("specie/digest.constants", Rows.laid_specie_digest_constants), ("specie/digest.start", Rows.laid_specie_digest_start)]
abbrev laidFour : List (String × DataW Unit) := [("math/bits.deBruijn64tab", Rows.laid_math_bits_deBruijn64tab), ("specie/prime.bases", Rows.laid_specie_prime_bases), ("specie/digest.constants", Rows.laid_specie_digest_constants), ("specie/digest.start", Rows.laid_specie_digest_start)]

theorem tabS_of {W : World} (h0 : laidMet Tryd.prog laidSha W) : TabS W := by
  have t1 : Lib.TabIs Tryd.prog W "specie/digest.constants" .u32 shaK :=
    Lib.tabIs_of_head (rest := [("specie/digest.start", Rows.laid_specie_digest_start)]) gConst gConstType Tryd.underlying178 Tryd.underlying122 cellsU32 cellsConst h0
  have t2 : Lib.TabIs Tryd.prog W "specie/digest.start" .u32 ((List.range 8).map shaStart.get) :=
    Lib.tabIs_of_head (rest := []) gStart gStartType Tryd.underlying123 Tryd.underlying122 cellsU32 cellsStart (laid_tail h0)
  refine ⟨?_, fun i hi => ?_⟩
  · unfold Lib.TabIs World.var? at t2
    rw [gStart] at t2
    simp only [Option.bind_some] at t2
    split at t2
    · rename_i cs t fr hh
      simp only [Option.some.injEq] at t2
      exact ⟨t, fr, by rw [hh, t2]; rfl⟩
    · cases t2
  · have := t1.cell gConst i (by simpa [shaK] using hi)
    rw [this]

theorem tabS_of_sha {W : World} (h : laidMetH Tryd.prog laidSha W) : TabS W := tabS_of h
theorem tabS_of_four {W : World} (h : laidMetH Tryd.prog laidFour W) : TabS W := by
  have h0 : laidMet Tryd.prog laidFour W := h
  exact tabS_of (laid_tail (laid_tail h0))
theorem tab_of_four {W : World} (h : laidMetH Tryd.prog laidFour W) : Tab W := by
  have h0 : laidMet Tryd.prog laidFour W := h
  have t1 : Lib.TabIs Tryd.prog W "math/bits.deBruijn64tab" .u8 (Lib.deBruijn64tab.map fun n : Nat => (n : Int)) :=
    Lib.tabIs_of_head (rest := [("specie/prime.bases", Rows.laid_specie_prime_bases), ("specie/digest.constants", Rows.laid_specie_digest_constants), ("specie/digest.start", Rows.laid_specie_digest_start)]) gTab gTabType Tryd.underlying224 Tryd.underlying5 cellsU8 cellsTab h0
  have t2 : Lib.TabIs Tryd.prog W "specie/prime.bases" .u64 baseList :=
    Lib.tabIs_of_head (rest := laidSha) gBases gBasesType Tryd.underlying203 Tryd.underlying34 cellsU64 cellsBases (laid_tail h0)
  refine ⟨?_, fun i hi => ?_⟩
  · unfold Lib.TabIs World.var? at t2
    rw [gBases] at t2
    simp only [Option.bind_some] at t2
    split at t2
    · rename_i cs t fr hh
      simp only [Option.some.injEq] at t2
      exact ⟨t, fr, by rw [hh, t2]; rfl⟩
    · cases t2
  · have := t1.cell gTab i (by simpa [Lib.deBruijn64tab] using hi)
    rw [this]
    simp [List.getD_eq_getElem?_getD]
    cases h : Lib.deBruijn64tab[i]? <;> simp
end Go.Proofs.YtdlcmpbpdbpanaaDoor
