/- Appends, whole-array stores, and texts as bytes: at an operation, and at a step of a region that draws its order. Over any program. Package digest: Tagged. -/
import Derived.Test.YtdlcmpbpdbpanaaGreatDoorMUnlinkExplains14
import Derived.Test.YtdlcmpbpdbpanaaGreatDoorMUnlinkExplains16
import Derived.Laws.IdiomStrings
import Derived.Great.BuildSlice
import Derived.RegionTactic
import Derived.Deep.MidRow
import Derived.Laws.ResultCell
import Derived.Deep.RegionHeld3
namespace Go.Sp
open Go.RowKit

/-- append(v, u...) onto the call's own: at the operation. -/
theorem op_app {P : Program} {e t : TypeId} {k : IntKind} {bytes : Nat} (hI : (P.info? e).map (fun i => (i.zero, i.size, i.bytes)) = some (some (.int k 0), 1, bytes)) (ht : P.underlying t = some (.slice e)) (hby : bytes ≤ 8)
    {o : Oper} {a : Act} {w : World} {K : Act → World → Prop} {Q : Exit → Act → World → Prop} (s x : Operand)
    (ho : o.op = .call { callee := .builtin .append, args := #[s, x], argTypes := #[t, t] })
    (base : Nat) {v u : Value} {xs ys : List Int} (hs : a.eval s = v) (hx : a.eval x = u) (hown : OwnS e k w base v xs) (hsrc : SeqAt k w u ys) (hroom : xs.length + ys.length ≤ 17592186044416) (hbase : base ≤ w.heap.size)
    (h : ∀ v' w', OwnS e k w' base v' (xs ++ ys) → w.grownBy w' v.ownBlock → K (a.put o.dst v') w') : o.wp P a w K Q := by
  obtain ⟨i0, hi, hz0, hz1, hz2⟩ := info_parts hI
  obtain ⟨ad, cap, rfl, _, _, hcap, hc⟩ := hsrc
  have hown' : w.ownsRow base e 1 v xs.length (xs.map (Value.int k)) := hown
  by_cases hne : ys = []
  · subst hne
    cases ad with
    | none =>
      have hcap := hcap rfl
      subst hcap
      have hrun := run_append_owned_none (P := P) (w := w) base t o.type e i0 1 ht hi v xs.length _ hown'
      unfold Oper.wp execOp
      simp only [ho, resolve, invoke, builtin, Sem.run_bind, Sem.run_pure, Result.andThen_ok, List.map_toArray, List.map_cons, List.map_nil, hs, hx, List.length_nil, hrun]
      exact h v w (by rw [List.append_nil]; exact hown) (World.grownBy.refl _ _)
    | some ad =>
      refine wp_append_own w s x t ho base e i0 (.int k 0) 1 bytes ht hi hz0 hz1 hz2 rfl (by decide) v xs.length _ hs hown' ad 0 cap [] hx rfl (fun j u hj => by simp at hj) (fun u hu => by cases hu) (by unfold maxLen; omega) (by
        have := Nat.mul_le_mul (show xs.length + 0 ≤ 17592186044416 by simp at hroom; omega) hby
        omega) hbase fun v' w' h1 h2 _ => h v' w' (by
          unfold OwnS
          rw [List.append_nil]
          simpa using h1) h2
  · obtain ⟨b, off, rfl, hcell⟩ := hc hne
    refine wp_append_own w s x t ho base e i0 (.int k 0) 1 bytes ht hi hz0 hz1 hz2 rfl (by decide) v xs.length _ hs hown' ⟨b, off, none⟩ ys.length cap (ys.map (Value.int k)) hx (by simp) (fun j u hj => by
        simp only [List.getElem?_map, Option.map_eq_some_iff] at hj
        obtain ⟨y, hy, rfl⟩ := hj
        have hj2 : j < ys.length := (List.getElem?_eq_some_iff.1 hy).1
        have := hcell j hj2
        rw [Addr.add_lit, this]
        simp [hy]) (ints_oneCell _ _) (by unfold maxLen; omega) (by
        have := Nat.mul_le_mul hroom hby
        omega) hbase fun v' w' h1 h2 _ => h v' w' (by
          unfold OwnS
          rw [List.length_append, List.map_append]
          exact h1) h2

/-- The same at a step of a region that draws its order. -/
theorem step_app {P : Program} {e t : TypeId} {k : IntKind} {bytes : Nat} (hI : (P.info? e).map (fun i => (i.zero, i.size, i.bytes)) = some (some (.int k 0), 1, bytes)) (ht : P.underlying t = some (.slice e)) (hby : bytes ≤ 8)
    {ops : Array Oper} {o : Oper} {a : Act} {w : World} {K : Act → World → Prop} {Q : Exit → Act → World → Prop} {E : Prop} (hgd : o.guard = none) (s x : Operand)
    (ho : o.op = .call { callee := .builtin .append, args := #[s, x], argTypes := #[t, t] })
    (base : Nat) {v u : Value} {xs ys : List Int} (hs : a.eval s = v) (hx : a.eval x = u) (hown : OwnS e k w base v xs) (hsrc : SeqAt k w u ys) (hroom : xs.length + ys.length ≤ 17592186044416) (hbase : base ≤ w.heap.size)
    (h : ∀ v' w', OwnS e k w' base v' (xs ++ ys) → w.grownBy w' v.ownBlock → K (a.put o.dst v') w') : if Region.wanted o (yielded ops a.tmps) = true then Oper.wp P o a w K Q else E := by
  have hw : Region.wanted o (yielded ops a.tmps) = true := by simp [Region.wanted, hgd]
  rw [if_pos hw]
  exact op_app hI ht hby s x ho base hs hx hown hsrc hroom hbase h

theorem step_store_row {P : Program} {ops : Array Oper} {o : Oper} {a : Act} {w : World} {K : Act → World → Prop} {Q : Exit → Act → World → Prop} {E : Prop} (hgd : o.guard = none) (ty : TypeId) (x y : Operand) (ho : o.op = .store ty x y) (hd : o.dst = none)
    (g : Nat) (cells : Array Value) (hx : a.eval x = .pointer (some ⟨g, 0, none⟩)) (hy : a.eval y = .agg cells)
    (t : TypeId) (old : Array Value) (hg : w.heap[g]? = some (.cells old t (0, 0))) (hi : (P.info? ty).map (·.size) = some cells.size)
    (hold : old.size = cells.size) (h1 : cells.all (·.oneCell') = true)
    (h : K a (w.setRow g cells)) : if Region.wanted o (yielded ops a.tmps) = true then Oper.wp P o a w K Q else E := by
  have hw : Region.wanted o (yielded ops a.tmps) = true := by simp [Region.wanted, hgd]
  rw [if_pos hw]
  exact wp_store_row ty x y ho g cells hx hy t old hg hi hold h1 (by rw [hd]; exact h)

/-- A whole row stored cell by cell. -/
theorem setCells_row {g : Nat} {t : TypeId} : ∀ (cs pre post : List Value) (w : World), w.heap[g]? = some (.cells (pre ++ post).toArray t (0, 0)) → post.length = cs.length →
    (w.setCells g pre.length cs).heap[g]? = some (.cells (pre ++ cs).toArray t (0, 0))
  | [], pre, post, w, h, hl => by
    have : post = [] := List.length_eq_zero_iff.1 hl
    subst this
    exact h
  | v :: cs, pre, [], w, _, hl => by simp at hl
  | v :: cs, pre, p :: post, w, h, hl => by
    have h1 := heap_setCell_same w g pre.length _ t v h
    have e : ((pre ++ p :: post).toArray.setIfInBounds pre.length v) = ((pre ++ [v]) ++ post).toArray := by
      simp
    rw [e] at h1
    have := setCells_row cs (pre ++ [v]) post _ h1 (by simpa using hl)
    rw [World.setCells]
    simpa using this

theorem Blk.mid {w : World} {g : Nat} {t : TypeId} {old : Array Value} (h : Blk w g t old) (cs : List Value) (hl : old.size = cs.length) : Blk (w.setCells g 0 cs) g t cs.toArray := by
  have h' : w.heap[g]? = some (.cells ([] ++ old.toList).toArray t (0, 0)) := by
    have h0 : w.heap[g]? = some (.cells old t (0, 0)) := h
    simpa using h0
  have := setCells_row (g := g) (t := t) cs [] old.toList w h' (by simpa using hl)
  show (w.setCells g 0 cs).heap[g]? = some (.cells cs.toArray t (0, 0))
  simpa using this

theorem Up.setCells {w0 : World} {g : Nat} (hg : w0.heap.size ≤ g) : ∀ (cs : List Value) (i : Nat) {w : World}, Up w0 w → Up w0 (w.setCells g i cs)
  | [], _, _, h => h
  | v :: cs, i, w, h => by
    rw [World.setCells]
    exact Up.setCells hg cs (i + 1) (h.setCell hg v)

theorem Blk.there {w : World} {g : Nat} {t : TypeId} {cs : Array Value} {n : Nat} (h : Blk w g t cs) (hn : n ≤ cs.size) : w.there g 0 n := fun j hj => by
  rw [h.read, h.thawed]
  simp
  omega

/-- Whatever world. -/
def AnyW (_ : World) : Prop := True
theorem anyW (w : World) : AnyW w := trivial

/-- Results: a whole row, and slots. -/
theorem results_row_tmp {P : Program} {fn : Func} {p u : Tmp} {ty : TypeId} (h : fn.results = #[.cell p ty, .tmp u]) (tmps : Array Value) (w : World) (g : Nat) (t : TypeId) (cs : Array Value) (fr : Nat × Nat) (d : TypeDesc)
    (hp : tmps.getD p undef = .pointer (some ⟨g, 0, none⟩)) (hg : w.heap[g]? = some (.cells cs t fr))
    (hu : P.underlying ty = some d) (hd : (match d with | .struct _ | .array _ _ => true | _ => false) = true) (hi : (P.info? ty).map (·.size) = some cs.size) :
    (results fn tmps).run P w = .ok (.tuple #[.agg cs, tmps.getD u undef]) w := by
  rw [results_cell_tmp h, hp]
  simp [asAddr, Sem.run_pure, Result.andThen, run_loadVar_row w g t ty cs fr d hg hu hd hi]

theorem results_row_tmp2 {P : Program} {fn : Func} {p u v : Tmp} {ty : TypeId} (h : fn.results = #[.cell p ty, .tmp u, .tmp v]) (tmps : Array Value) (w : World) (g : Nat) (t : TypeId) (cs : Array Value) (fr : Nat × Nat) (d : TypeDesc)
    (hp : tmps.getD p undef = .pointer (some ⟨g, 0, none⟩)) (hg : w.heap[g]? = some (.cells cs t fr))
    (hu : P.underlying ty = some d) (hd : (match d with | .struct _ | .array _ _ => true | _ => false) = true) (hi : (P.info? ty).map (·.size) = some cs.size) :
    (results fn tmps).run P w = .ok (.tuple #[.agg cs, tmps.getD u undef, tmps.getD v undef]) w := by
  have hp' : tmps[p]?.getD undef = .pointer (some ⟨g, 0, none⟩) := by simpa using hp
  simp only [results, h]
  simp [Result.andThen, hp', asAddr, run_loadVar_row w g t ty cs fr d hg hu hd hi]

/-- A text as bytes. -/
def txt (s : ByteArray) : List Int := s.data.toList.map fun c => (c.toNat : Int)
theorem txt_length (s : ByteArray) : (txt s).length = s.size := by rw [txt, List.length_map]; rfl
theorem txt_byt (s : ByteArray) : ∀ x ∈ txt s, 0 ≤ x ∧ x ≤ 255 := by
  intro x hx
  simp only [txt, List.mem_map] at hx
  obtain ⟨c, _, rfl⟩ := hx
  have : c.toNat < 256 := c.toNat_lt
  omega

theorem seq_text (w : World) (s : ByteArray) (c : Nat) (e : TypeId) (fr : Nat × Nat) (hc : s.size ≤ c) (h63 : c ≤ 9223372036854775807) :
    SeqAt .u8 (w.alloc (.cells (bytesRow s c) e fr)) (.slice (some ⟨w.heap.size, 0, none⟩) s.size c) (txt s) :=
  seq_block (heap_alloc_new w _) (txt s) 0 s.size c (txt_length s) hc h63 fun i hi => by
    have hi2 : i < s.data.size := hi
    rw [Nat.zero_add, bytesRow, Array.getElem?_append_left (by simpa using hi2)]
    simp [txt, Array.getElem?_eq_getElem hi2]

theorem seq_text_at {w : World} {g : Nat} (s : ByteArray) (c : Nat) (e : TypeId) (fr : Nat × Nat) (hg : w.heap.size = g) (hc : s.size ≤ c) (h63 : c ≤ 9223372036854775807) :
    SeqAt .u8 (w.alloc (.cells (bytesRow s c) e fr)).drew (.slice (some ⟨g, 0, none⟩) s.size c) (txt s) := by
  subst hg
  exact (seq_text w s c e fr hc h63).up (Up.refl _).drew
theorem cap_ge {w : World} {n : Nat} {e : TypeId} : n ≤ grownCap w n 0 e := grownCap_ge _ _ _ _
theorem cap_le {w : World} {n : Nat} {e : TypeId} (h : n ≤ 9223372036854775807) : grownCap w n 0 e ≤ 9223372036854775807 := by
  have := grownCap_le_maxLen w n 0 e (by unfold maxLen; omega)
  unfold maxLen at this
  omega
end Go.Sp
namespace Go.Proofs.YtdlcmpbpdbpanaaGreatDoor
open Go.RowKit Go.Sp
set_option maxHeartbeats 2000000
set_option maxRecDepth 20000

theorem hashV_seq {w : World} {g : Nat} {t : TypeId} {h : Nat → Int} (hb : Blk w g t (arrK .u8 h 32)) : SeqAt .u8 w (.slice (some ⟨g, 0, none⟩) 32 32) (hList h) := by
  have := hb.seq 0 32 32 (by omega) (by omega) (by omega)
  simpa [hList] using this

theorem hList_byt {h : Nat → Int} (hb : ∀ i, 0 ≤ h i ∧ h i ≤ 255) : ∀ x ∈ hList h, 0 ≤ x ∧ x ≤ 255 := by
  intro x hx
  simp only [hList, List.mem_map] at hx
  obtain ⟨i, _, rfl⟩ := hx
  exact hb i

theorem Tagged_any (s : ByteArray) (v : Value) (xs : List Int) (w : World) (hT : TabS w) (hs0 : 1 ≤ s.size) (hs1 : s.size ≤ 100) (hv : SeqAt .u8 w v xs) (hl : xs.length ≤ 1099511626000) (hB : ∀ x ∈ xs, 0 ≤ x ∧ x ≤ 255) :
    Calls Tryz.prog 143 #[.string s, v] w fun e w' => e = .returned (.tuple #[hashV (tagB (txt s) xs), .int .i64 0]) ∧ Up w w' := by
  have HT := hid hT
  have HV := hid hv
  have HTx := hid (txt_byt s)
  have HTl := hid (txt_length s)
  obtain ⟨h, hh⟩ : ∃ h, shaB (txt s) = h := ⟨_, rfl⟩
  have HH := hid hh
  have Hhb : Hid (∀ i, 0 ≤ h i ∧ h i ≤ 255) := hid (by rw [← hh]; exact shaB_range _)
  have HR : Hid (tagB (txt s) xs = shaB (hList h ++ hList h ++ xs)) := hid (by rw [tagB, hh])
  obtain ⟨R, hR⟩ : ∃ R, tagB (txt s) xs = R := ⟨_, rfl⟩
  rw [hR] at HR
  rw [hR]
  have HS1 := hid (fun w' (v' : Value) (hU : Up w w') (hv' : SeqAt .u8 w' v' (txt s)) => Sum_any v' (txt s) w' (HT.out.up hU) hv' (by rw [txt_length]; omega) HTx.out)
  rw [hh] at HS1
  have HS2 := hid (fun w' (v' : Value) (hU : Up w w') (hv' : SeqAt .u8 w' v' (hList h ++ hList h ++ xs)) => Sum_any v' _ w' (HT.out.up hU) hv' (by simp [hList_length]; omega) (by
    intro x hx
    simp only [List.mem_append] at hx
    rcases hx with (hx | hx) | hx
    · exact hList_byt Hhb.out x hx
    · exact hList_byt Hhb.out x hx
    · exact hB x hx))
  rw [← HR.out] at HS2
  have hcv := fun w' => run_bytes_of_string (P := Tryz.prog) w' 9 51 5 s Tryz.underlying9 Tryz.underlying51 Tryz.underlying5
  obtain ⟨n, hn⟩ : ∃ n, xs.length = n := ⟨_, rfl⟩
  have HN := hid hn
  obtain ⟨va, vc, rfl, _, _⟩ := hv.shape
  rw [hn] at HV hl
  rw [hn]
  clear hT hv hh hR hn hB
  go_enter Tryz.func143, Tryz.ntmps143
  go_wp2_with fail
  refine (HS1.out _ _ (((Up.refl w).alloc _).alloc _).drew (seq_text_at s _ _ _ (by simp) cap_ge (cap_le (by omega)))).mono ?_
  rintro e w1 ⟨rfl, hU1⟩
  have hZ1 : Blk w1 w.heap.size 31 (arrK .u8 (fun _ => 0) 32) := (((Blk.new rfl zero32).alloc _).up (Up.refl _).drew).up hU1
  have hU1 := (((Up.refl w).alloc _).alloc _).drew.trans hU1
  obtain ⟨o, ho⟩ : ∃ o, w.heap.size = o := ⟨_, rfl⟩
  have HOo := hid ho
  rw [ho] at hZ1
  rw [ho]
  have l1 := hZ1.lt
  clear hcv ho HS1
  unfold hashV
  go_wp2_with (first | (refine wpList_store_rowTo rfl 31 _ _ rfl rfl _ _ rfl rfl 31 _ (heap_alloc_new _ _) (by rw [arrK_size]; kernel_rfl) (by rw [arrK_size]; rfl) arrK_one ?_; rw [World.setRow_alloc_new]))
  obtain ⟨g, hg⟩ : ∃ g, w1.heap.size = g := ⟨_, rfl⟩
  rw [hg]
  obtain ⟨w2, hw2⟩ : ∃ w2, w1.alloc (.cells (arrK .u8 h 32) 31) = w2 := ⟨_, rfl⟩
  have hG2 : Blk w2 g 31 (arrK .u8 h 32) := by rw [← hw2]; exact Blk.new hg rfl
  have hZ2 : Blk w2 o 31 (arrK .u8 (fun _ => 0) 32) := by rw [← hw2]; exact hZ1.alloc _
  have hU2 : Up w w2 := by rw [← hw2]; exact hU1.alloc _
  rw [hg] at l1
  rw [hw2]
  have HG := hid (hashV_seq hG2)
  have HZ := hid hZ2
  have HU := hid hU2
  have hsz := hG2.lt
  clear hw2 hZ1 hU1 hG2 hZ2 hU2 hg
  have HLn := hid (hList_length h)
  have hwz := HU.out.size
  obtain ⟨cs, hcs⟩ : ∃ cs, (arrK .u8 R 32).toList = cs := ⟨_, rfl⟩
  have hV : hashV R = .agg cs.toArray := by rw [← hcs]; rfl
  have HCs := hid hV
  rw [hV] at HS2
  have hcl : cs.length = 32 := by rw [← hcs]; simp [arrK]
  have hci : (Tryz.prog.info? 31).map (·.size) = some cs.length := by rw [hcl]; kernel_rfl
  have hco : ∀ v ∈ cs, v.oneCell' = true := by
    rw [← hcs]
    intro v hv
    have := Array.all_eq_true_iff_forall_mem.1 (arrK_one (k := .u8) (f := R) (n := 32)) v (by simpa using hv)
    exact this
  clear hV hcs
  have hS0 := anyW w2
  have hS1 := anyW w2.drew
  go_region_held3 AnyW (exact anyW _) (first
    | (go_at_call 163; refine (bClone_any _ (hList h) _ (HG.out.up (by first | exact (Up.refl _).drew | exact Up.refl _ | exact (Up.refl _).drew.drew)) (by rw [hList_length]; omega)).mono ?_; rintro e w3 ⟨v3, rfl, hO3, hU3⟩; have hD3 := Up.trans (by first | exact (Up.refl w2).drew | exact Up.refl w2 | exact (Up.refl w2).drew.drew) hU3)
    | (refine step_app infoU8 Tryz.underlying51 (by omega) (by rfl) _ _ (by rfl) w2.heap.size (by rfl) (by rfl) hO3 (HG.out.up hD3) (by have := HLn.out; omega) hD3.size ?_; intro v4 w4 hO4 hg4; have hU4 := (HU.out.trans hD3).own hO3 hg4 hwz; have hB4 := below_own hO3 hg4 hD3.size)
    | (refine step_app infoU8 Tryz.underlying51 (by omega) (by rfl) _ _ (by rfl) w2.heap.size (by rfl) (by rfl) hO4 (HV.out.up hU4) (by have := HLn.out; have := HN.out; simp; omega) (by have := hB4.size; have := hD3.size; omega) ?_; intro v5 w5 hO5 hg5; have hU5 := hU4.own hO4 hg5 hwz; have hB5 := below_own hO4 hg5 (by have := hB4.size; have := hD3.size; omega))
    | (go_at_call 102; refine (HS2.out _ _ (by first | exact hU5 | exact hU5.drew) (by first | exact hO5.seq | exact hO5.seq.up (Up.refl _).drew)).mono ?_; rintro e w6 ⟨rfl, hU6⟩; have hZ6 := (((HZ.out.up hD3).below hB4 HZ.out.lt).below hB5 HZ.out.lt).up hU6; have hth : w6.there o 0 32 := hZ6.there (by rw [arrK_size]; omega)))
  have hZ7 := hZ6.mid cs (by rw [arrK_size, hcl])
  have hU7 := Up.setCells (g := o) (by have := HOo.out; omega) cs 0 (hU5.trans hU6)
  clear hO3 hU3 hD3 hO4 hg4 hU4 hB4 hO5 hg5 hU5 hB5 hU6 hZ6 hth
  go_wp2
  refine bodyPost_ret (v := .tuple #[.agg cs.toArray, .int .i64 0]) (results_row_tmp Tryz.results143 _ _ o 31 _ (0, 0) _ (by rfl) hZ7 Tryz.underlying31 rfl (by rw [hci]; simp)) rfl ⟨by rw [HCs.out], hU7⟩
end Go.Proofs.YtdlcmpbpdbpanaaGreatDoor
