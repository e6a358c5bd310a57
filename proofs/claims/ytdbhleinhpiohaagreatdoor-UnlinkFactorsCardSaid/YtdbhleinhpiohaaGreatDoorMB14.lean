/- The reference's SHA-256: the words of a block. The reference's SHA-256: a round. Package draw: the number of the first 8 bytes; a block. Package draw: a block. Package draw: a number. -/
import Derived.Test.YtdbhleinhpiohaaGreatDoorMB13
import Derived.Test.YtdbhleinhpiohaaGreatDoorMB12
import Derived.Test.YtdbhleinhpiohaaGreatDoorMB1
import Derived.Deep.RegionLaw
import Derived.IntWalk
import Derived.StillTailTactics
import Derived.Lib.ItoaNum
namespace Go.Proofs.YtdbhleinhpiohaaGreatDoor
open Go.RowKit Go.Sp
set_option maxHeartbeats 4000000
set_option maxRecDepth 20000

theorem infoU32 : (Tryz.prog.info? 113).map (fun i => (i.zero, i.size, i.bytes)) = some (some (.int .u32 0), 1, 4) := by kernel_rfl

theorem own_there {e : TypeId} {k : IntKind} {w : World} {base : Nat} {v : Value} {xs : List Int} (h : OwnS e k w base v xs) (hne : xs ≠ []) :
    ∃ g cap, v = .slice (some ⟨g, 0, none⟩) xs.length cap ∧ g < w.heap.size ∧ xs.length ≤ cap ∧ cap ≤ 9223372036854775807 ∧ ∀ i, i < xs.length → w.cell? ⟨g, i, none⟩ = some (.int k (xs.getD i 0)) := by
  have hc := h
  rcases h.2 with ⟨hv, hn⟩ | ⟨g, cap, cur, rfl, hb, hg, hn, hm, hs, ht⟩
  · exact absurd (List.length_eq_zero_iff.1 hn) hne
  · refine ⟨g, cap, rfl, (Array.getElem?_eq_some_iff.1 hg).1, hn, by unfold maxLen at hm; omega, fun i hi => ?_⟩
    rw [World.ownsRow.cellAt hc i (by omega)]
    simp [hi]

theorem cup {w w' : World} {b o : Nat} {v : Value} (hU : Up w w') (h : w.cell? ⟨b, o, none⟩ = some v) : w'.cell? ⟨b, o, none⟩ = some v := by rw [hU.cell (cell_in h)]; exact h

/-- The first n words. -/
def wL (b : Nat → Int) (n : Nat) : List Int := (List.range n).map (wAt b)
theorem wL_length (b : Nat → Int) (n : Nat) : (wL b n).length = n := by simp [wL]
theorem wL_succ (b : Nat → Int) (n : Nat) : wL b (n + 1) = wL b n ++ [wAt b n] := by
  unfold wL
  rw [List.range_succ, List.map_append]
  rfl
theorem wL_get {b : Nat → Int} {n i : Nat} (hi : i < n) : (wL b n).getD i 0 = wAt b i := by
  unfold wL
  simp [hi]

theorem rwords_any (v : Value) (xs : List Int) (w : World) (hv : SeqAt .u8 w v xs) (hl : xs.length = 64) (hB : Byt fun j => xs.getD j 0) :
    Calls Tryz.prog 101 #[v] w fun e w' => ∃ v', e = .returned v' ∧ OwnS 113 .u32 w' w.heap.size v' (wL (fun j => xs.getD j 0) 64) ∧ Up w w' := by
  have HV := hid hv
  obtain ⟨b0, o0, c0, rfl, _⟩ := hv.cell (i := 0) (by omega)
  obtain ⟨_, cap, hshape, hcap1, hcap2⟩ := hv.shape
  simp only [Value.slice.injEq] at hshape
  obtain ⟨-, -, rfl⟩ := hshape
  rw [hl] at hcap1 HV
  rw [hl]
  have HL := hid hl
  obtain ⟨b, hb⟩ : ∃ b : Nat → Int, (fun j => xs.getD j 0) = b := ⟨_, rfl⟩
  rw [hb]
  rw [hb] at hB
  have Hb := hid hb
  have HB := hid hB
  obtain ⟨o, ho⟩ : ∃ o, w.heap.size = o := ⟨_, rfl⟩
  have HOo := hid ho
  have HLn := hid (wL_length b)
  have HSn := hid (wL_succ b)
  clear hv hl hb hB ho
  go_enter Tryz.func101, Tryz.ntmps101
  go_wp2_with fail
  go_loopw [3, 4] (fun vp vi wr => ∃ (i : Nat) (p : Option Addr) (cp : Nat), i ≤ 16 ∧ vi = .int .i64 i ∧ vp = .slice p i cp ∧ Hid (OwnS 113 .u32 wr o (.slice p i cp) (wL b i)) ∧ Hid (Up w wr)) (fun _ vi _ => 16 - (intOf vi).toNat)
  case atStart => exact ⟨0, none, 0, by omega, rfl, rfl, hid own_none, hid (Up.refl w)⟩
  case round =>
    obtain ⟨i, p, cp, hi, rfl, rfl, HO, HU⟩ := hrel
    by_cases hlt : i < 16
    · go_wp2_with fail
      go_loop [5, 6] (fun vx vk => ∃ k : Nat, k ≤ 4 ∧ vk = .int .i64 k ∧ vx = .int .u32 (wordTo b i k)) (fun _ vk => 4 - (intOf vk).toNat)
      case atStart => exact ⟨0, by omega, rfl, rfl⟩
      case round =>
        obtain ⟨k, hk, rfl, rfl⟩ := hrel
        by_cases hkl : k < 4
        · obtain ⟨b1, o1, c1, hsh, hx⟩ := (HV.out.up HU.out).cell (i := 4 * i + k) (by rw [HL.out]; omega)
          simp only [Value.slice.injEq, Option.some.injEq, Addr.mk.injEq] at hsh
          obtain ⟨⟨rfl, rfl, -⟩, -, -⟩ := hsh
          rw [show xs.getD (4 * i + k) 0 = b (4 * i + k) from congrFun Hb.out _] at hx
          have HS : Hid (wordTo b i (k + 1) = wordTo b i k * 256 + b (4 * i + k)) := hid rfl
          have r1 := wordTo_range HB.out i k
          have r2 : (256 : Int) ^ k ≤ 16777216 := by
            have : k = 0 ∨ k = 1 ∨ k = 2 ∨ k = 3 := by omega
            rcases this with rfl | rfl | rfl | rfl <;> decide
          have r3 := HB.out (4 * i + k)
          generalize wordTo b i k = x at *
          generalize b (4 * i + k) = c at *
          have x0 := r1.1
          have x1 : x < 16777216 := by omega
          have c0' := r3.1
          have c1' := r3.2
          clear r1 r2 r3
          go_wp2_with fail
          go_round
          case rel => exact ⟨k + 1, by omega, by go_num, by rw [HS.out]⟩
          case measure => simp [intOf]; omega
        · obtain rfl : k = 4 := by omega
          have hw := wordTo_four b i
          have HW : Hid (wL b i ++ [wordTo b i 4] = wL b (i + 1)) := hid (by rw [HSn.out, hw, wAt_low hlt])
          have HLi := hid (HLn.out i)
          have HLi1 := hid (HLn.out (i + 1))
          have hbs : o ≤ wr.heap.size := by have := HU.out.size; have := HOo.out; omega
          clear hw
          generalize wordTo b i 4 = x at *
          go_wp2_with (at_builtin; refine wp_app infoU32 Tryz.underlying120 (by omega) rfl _ _ rfl o rfl rfl (HO.out.up ((Up.refl wr).alloc _)) (seq_new _ _ _) (by have := HLi.out; simp; omega) (by simp; omega) ?_; intro v' w' hO' hg')
          have hU' := (HU.out.alloc _).own (HO.out.up ((Up.refl wr).alloc _)) hg' (by have := HOo.out; omega)
          rw [HW.out] at hO'
          obtain ⟨p', k', rfl, _, _⟩ := hO'.shape
          rw [HLi1.out] at hO'
          rw [HLi1.out]
          have HO' := hid hO'
          have HU' := hid hU'
          clear hO' hU' hg' HO HU
          go_wp2_with fail
          go_roundw
          case rel => exact ⟨i + 1, p', k', by omega, by go_num, rfl, HO', HU'⟩
          case measure => simp [intOf]; omega
    · have hi16 : i = 16 := by omega
      have HI16 := hid hi16
      have d16 : decide ((i : Int) < 16) = false := by simp; omega
      clear hi16
      go_wp2_with fail
      go_loopw [3, 7] (fun vp vt wr => ∃ (t : Nat) (p : Option Addr) (cp : Nat), 16 ≤ t ∧ t ≤ 64 ∧ vt = .int .i64 t ∧ vp = .slice p t cp ∧ Hid (OwnS 113 .u32 wr o (.slice p t cp) (wL b t)) ∧ Hid (Up w wr)) (fun _ vt _ => 64 - (intOf vt).toNat)
      case atStart => exact ⟨16, p, cp, by omega, by omega, rfl, by rw [HI16.out], by rw [← HI16.out]; exact HO, HU⟩
      case round =>
        clear HO HU
        obtain ⟨t, p, cp, ht0, ht, rfl, rfl, HO, HU⟩ := hrel
        by_cases htl : t < 64
        · obtain ⟨g, cp', hsh, hg, hc1, hc2, hcell⟩ := own_there HO.out (by intro h; have := HLn.out t; rw [h] at this; simp at this; omega)
          rw [HLn.out] at hsh hc1 hcell
          simp only [Value.slice.injEq] at hsh
          obtain ⟨rfl, -, rfl⟩ := hsh
          have q1 := hcell (t - 15) (by omega)
          have q2 := hcell (t - 2) (by omega)
          have q3 := hcell (t - 16) (by omega)
          have q4 := hcell (t - 7) (by omega)
          rw [wL_get (by omega)] at q1 q2 q3 q4
          have HW := hid (HSn.out t)
          have HE := hid (wAt_high (b := b) ht0)
          have HLi := hid (HLn.out t)
          have HLi1 := hid (HLn.out (t + 1))
          have hbs : o ≤ wr.heap.size := by have := HU.out.size; have := HOo.out; omega
          have z1 : (16 : Int) ≤ t := by omega
          have z2 : (t : Int) < 64 := by omega
          clear hcell
          generalize wAt b (t - 15) = x at *
          generalize wAt b (t - 2) = y at *
          generalize wAt b (t - 16) = p at *
          generalize wAt b (t - 7) = q at *
          have Q3 := hid q3
          have Q4 := hid q4
          clear q3 q4
          go_wp2_with fail
          go_quiet (fail)
          have hud := (Up.refl wr).drewN nq
          have HUr := hid hud
          clear hud q1 q2
          generalize wr.drewN nq = w3 at *
          go_wp2_with (go_at_call 102; first | ((with_reducible (show Calls _ _ #[_, .int .i64 7] _ _)); refine (rright_7 _ _).mono ?_; rintro e w' ⟨rfl, hU'⟩; have HUr := hid (HUr.out.trans hU'); clear hU') | ((with_reducible (show Calls _ _ #[_, .int .i64 18] _ _)); refine (rright_18 _ _).mono ?_; rintro e w' ⟨rfl, hU'⟩; have HUr := hid (HUr.out.trans hU'); clear hU') | ((with_reducible (show Calls _ _ #[_, .int .i64 17] _ _)); refine (rright_17 _ _).mono ?_; rintro e w' ⟨rfl, hU'⟩; have HUr := hid (HUr.out.trans hU'); clear hU') | ((with_reducible (show Calls _ _ #[_, .int .i64 19] _ _)); refine (rright_19 _ _).mono ?_; rintro e w' ⟨rfl, hU'⟩; have HUr := hid (HUr.out.trans hU'); clear hU'))
          obtain ⟨s0, hs0⟩ : ∃ s0, sg0 x = s0 := ⟨_, rfl⟩
          obtain ⟨s1, hs1⟩ : ∃ s1, sg1 y = s1 := ⟨_, rfl⟩
          rw [show bits BinOp.xor IntKind.u32 (bits BinOp.xor IntKind.u32 (rotr x 7) (rotr x 18)) (x / 8) = s0 from hs0]
          rw [show bits BinOp.xor IntKind.u32 (bits BinOp.xor IntKind.u32 (rotr y 17) (rotr y 19)) (y / 1024) = s1 from hs1]
          rw [hs0, hs1] at HE
          have HW2 : Hid (wL b t ++ [IntKind.u32.wrap (IntKind.u32.wrap (IntKind.u32.wrap (p + s0) + q) + s1)] = wL b (t + 1)) := hid (by rw [HW.out, HE.out]; rfl)
          have q3 := cup HUr.out Q3.out
          have q4 := cup HUr.out Q4.out
          have HO4 := hid (HO.out.up HUr.out)
          have HU4 := hid (HU.out.trans HUr.out)
          have hg4 : g < w'.heap.size := by have := HUr.out.size; omega
          have hb4 : o ≤ w'.heap.size := by have := HUr.out.size; omega
          clear hs0 hs1 HE HW HUr HO HU Q3 Q4 hg hbs
          have e16 : IntKind.i64.wrap ((t : Int) - 16) = (t : Int) - 16 := IntWalk.i64_in _ (by omega)
          have e7 : IntKind.i64.wrap ((t : Int) - 7) = (t : Int) - 7 := IntWalk.i64_in _ (by omega)
          have f16 : ((t : Int) - 16).toNat = t - 16 := by omega
          have f7 : ((t : Int) - 7).toNat = t - 7 := by omega
          have g16 : (t : Int) - 16 < t := by omega
          have g7 : (t : Int) - 7 < t := by omega
          have h7 : (7 : Int) ≤ t := by omega
          go_region_law ((refine step_app infoU32 Tryz.underlying120 (by omega) (by rfl) _ _ (by rfl) o (by rfl) (by rfl) (HO4.out.up ((Up.refl _).drew.alloc _)) (seq_new_at (by simp)) (by have := HLi.out; simp; omega) (by simp; omega) ?_; intro v5 w5 hO5 hg5))
          all_goals (
            have hU5 := Up.own (HU4.out.trans ((Up.refl w').drew.alloc _)) (HO4.out.up ((Up.refl w').drew.alloc _)) hg5 (by have := HOo.out; omega)
            rw [HW2.out] at hO5
            obtain ⟨p5, k5, rfl, _, _⟩ := hO5.shape
            rw [HLi1.out] at hO5
            rw [HLi1.out]
            have HO5 := hid hO5
            have HU5 := hid hU5
            clear hO5 hU5 hg5 HO4 HU4 e16 e7 f16 f7 g16 g7 h7 q3 q4
            go_wp2_with fail
            go_roundw
            case rel => exact ⟨t + 1, p5, k5, by omega, by omega, by go_num, rfl, HO5, HU5⟩
            case measure => simp [intOf]; omega)
        · obtain rfl : t = 64 := by omega
          go_wp2
          go_ret
          exact ⟨_, rfl, by rw [HOo.out]; exact HO.out, HU.out⟩
end Go.Proofs.YtdbhleinhpiohaaGreatDoor
namespace Go.Proofs.YtdbhleinhpiohaaGreatDoor
open Go.RowKit Go.Sp
set_option maxHeartbeats 4000000
set_option maxRecDepth 20000

theorem cupF {w : World} {b o : Nat} {v : Value} (h : w.cell? ⟨b, o, none⟩ = some v) (p : UpFrom w) : p.w'.cell? ⟨b, o, none⟩ = some v := cup p.up h

/-- Eight words in a block, from its head on. -/
def EightAt (w : World) (g : Nat) (s : St) : Prop := ∀ i, i < 8 → w.cell? ⟨g, i, none⟩ = some (.int .u32 (s.get i))
theorem EightAt.up {w w' : World} {g : Nat} {s : St} (h : EightAt w g s) (hU : Up w w') : EightAt w' g s := fun i hi => cup hU (h i hi)
theorem eight_blk {w : World} {g : Nat} {t : TypeId} {s : St} (h : Blk w g t (stA s)) : EightAt w g s := fun i hi => by
  rw [stA_arr] at h
  exact h.val (arrK_get hi)
theorem own_there2 {e : TypeId} {k : IntKind} {w w' : World} {base b : Nat} {v : Value} {xs : List Int} (h : OwnS e k w base v xs) (hg : w.grownBy w' (some b)) (hb : b < base) : OwnS e k w' base v xs := by
  refine ⟨h.1, ?_⟩
  rcases h.2 with h2 | ⟨g, cap, cur, h1, h2, h3, h4⟩
  · exact .inl h2
  · exact .inr ⟨g, cap, cur, h1, h2, by rw [hg.block g (Array.getElem?_eq_some_iff.1 h3).1 (by simp; omega)]; exact h3, h4⟩
theorem grown_cell (w : World) (o i : Nat) (v : Value) : w.grownBy (w.setCell ⟨o, i, none⟩ v) (some o) :=
  ⟨rfl, rfl, rfl, by simp [World.setCell], fun k _ hr => Below.heap_setCell w _ v k (fun e => hr (by rw [e]))⟩

theorem EightAt.wrote {w : World} {g o i : Nat} {s : St} {v : Value} (h : EightAt w g s) (hne : g ≠ o) : EightAt (w.setCell ⟨o, i, none⟩ v) g s := fun j hj => (grown_cell w o i v).cell (h j hj) (by simp; omega)

theorem seq8 {w : World} {g : Nat} {t : TypeId} {s : St} (h : Blk w g t (stA s)) : SeqAt .u32 w (.slice (some ⟨g, 0, none⟩) 8 8) [s.a, s.b, s.c, s.d, s.e, s.f, s.g, s.h] :=
  seq_block h [s.a, s.b, s.c, s.d, s.e, s.f, s.g, s.h] 0 8 8 rfl (Nat.le_refl _) (by decide) fun i hi => by
    have : i = 0 ∨ i = 1 ∨ i = 2 ∨ i = 3 ∨ i = 4 ∨ i = 5 ∨ i = 6 ∨ i = 7 := by omega
    rcases this with rfl | rfl | rfl | rfl | rfl | rfl | rfl | rfl <;> rfl

theorem blk_byt_cut {p : List Int} (h : ∀ x ∈ p, 0 ≤ x ∧ x ≤ 255) (m : Nat) : Byt fun j => ((p.drop m).take (m + 64 - m)).getD j 0 := fun j => byt_getD (fun x hx => h x (List.mem_of_mem_drop (List.mem_of_mem_take hx))) j

theorem rSum_any (v : Value) (xs : List Int) (w : World) (hv : SeqAt .u8 w v xs) (hl : xs.length ≤ 1099511627000) (hB : ∀ x ∈ xs, 0 ≤ x ∧ x ≤ 255) :
    Calls Tryz.prog 85 #[v] w fun e w' => e = .returned (hashV (shaB xs)) ∧ Up w w' := by
  have HPad := hid (fun w' (hU : Up w w') => rpadded_any v xs w' (hv.up hU) hl)
  have HBy := hid (padL_byt hB)
  obtain ⟨P, hP⟩ : ∃ P, padL xs = P := ⟨_, rfl⟩
  obtain ⟨N, hN⟩ : ∃ N, P.length / 64 = N := ⟨_, rfl⟩
  have hPl : P.length = 64 * N ∧ 64 * N ≤ 1099511627072 + 72 := by
    have := padL_length xs
    rw [hP] at this
    omega
  have HPl := hid hPl
  have HSha : Hid (shaB xs = outB (blocksS P N)) := hid (by rw [← hN, ← hP]; rfl)
  rw [hP] at HPad HBy
  obtain ⟨o, ho⟩ : ∃ o, w.heap.size = o := ⟨_, rfl⟩
  have HOo := hid ho
  clear hv hB hP hN hPl hl
  go_enter Tryz.func85, Tryz.ntmps85
  clear ho
  go_wp2_with fail
  refine (rconst_any (w.heap.size + 2) _ (by simp)).mono ?_
  rintro e w1 ⟨rfl, hK1, hU1⟩
  have HZ1 : Hid (Blk w1 w.heap.size 31 (arrK .u8 (fun _ => 0) 32)) := hid (((Blk.new rfl zero32).alloc _).up hU1)
  have HH1 : Hid (Blk w1 (w.heap.size + 1) 113 (stA shaStart)) := hid ((Blk.new (by simp) rfl).up hU1)
  have HK1 := hid hK1
  have HU1 := hid ((((Up.refl w).alloc _).alloc _).trans hU1)
  obtain ⟨kg, hkg⟩ : ∃ kg, w.heap.size + 2 = kg := ⟨_, rfl⟩
  rw [hkg] at HK1
  rw [hkg]
  have hkg2 : kg = o + 2 := by rw [← hkg, ← HOo.out]
  clear hkg
  subst hkg2
  have ho := HOo.out
  rw [ho] at HZ1 HH1
  rw [ho]
  clear hU1 hK1 ho
  go_wp2_with fail
  refine (HPad.out _ HU1.out).mono ?_
  rintro e w2 ⟨v2, rfl, hO2, hU2⟩
  have hkw : o + 2 < w1.heap.size := HK1.out.lt
  obtain ⟨p2, c2, rfl, hc1, hc2⟩ := hO2.shape
  have HPs := hid (hO2.mono (base' := o + 2) (by omega))
  have HZ2 := hid (HZ1.out.up hU2)
  have HH2 := hid (HH1.out.up hU2)
  have HK2 := hid (HK1.out.up hU2)
  have HU2 := hid (HU1.out.trans hU2)
  have hN0 := HPl.out.2
  rw [HPl.out.1] at HPs hc1
  rw [HPl.out.1]
  clear hU2 hO2 HZ1 HH1 HK1 HU1 HPad hkw
  go_wp2_with fail
  go_loopw [6] (fun va wr => ∃ k : Nat, k ≤ N ∧ va = .int .i64 ((64 * k : Nat) : Int) ∧ Hid (OwnS 5 .u8 wr (o + 2) (.slice p2 (64 * N) c2) P) ∧ Hid (Blk wr o 31 (arrK .u8 (fun _ => 0) 32)) ∧ Hid (Blk wr (o + 1) 113 (stA (blocksS P k))) ∧ Hid (Blk wr (o + 2) 113 (arrK .u32 (fun i => shaK.getD i 0) 64)) ∧ Hid (Up w wr)) (fun va _ => 64 * N - (intOf va).toNat)
  case atStart => exact ⟨0, by omega, rfl, HPs, HZ2, HH2, HK2, HU2⟩
  case round =>
    clear HPs HZ2 HH2 HK2 HU2
    obtain ⟨k, hk, rfl, HP, HZ, HH, HK, HU⟩ := hrel
    by_cases hkN : k < N
    · have hlt : ((64 * k : Nat) : Int) < ((64 * N : Nat) : Int) := by omega
      have dlt : decide (((64 * k : Nat) : Int) < ((64 * N : Nat) : Int)) = true := by simpa using hlt
      obtain ⟨pb, cb, hsh, hpl, hcb1, hcb2, _⟩ := own_there HP.out (by intro h; have := HPl.out.1; rw [h] at this; simp at this; omega)
      simp only [Value.slice.injEq] at hsh
      obtain ⟨rfl, -, rfl⟩ := hsh
      rw [HPl.out.1] at hcb1
      obtain ⟨m, hm⟩ : ∃ m, 64 * k = m := ⟨_, rfl⟩
      obtain ⟨M, hM⟩ : ∃ M, 64 * N = M := ⟨_, rfl⟩
      have Hm := hid hm
      have HM := hid hM
      have hmM : m + 64 ≤ M := by omega
      have hM0 : M ≤ 1099511627144 := by omega
      rw [hm, hM]
      rw [hm, hM] at dlt
      have hcbm : M ≤ c2 := by omega
      have i1 : (0 : Int) ≤ m := by omega
      have i2 : (m : Int) ≤ (m : Int) + 64 := by omega
      have i3 : (m : Int) + 64 ≤ c2 := by omega
      have dltn : decide (m < M) = true := by simp; omega
      have hs64 : SeqAt .u8 wr (.slice (some ⟨pb, m, none⟩) 64 (c2 - m)) ((P.drop m).take 64) := by
        have h := HP.out.seq.sub (lo := m) (hi := m + 64) (c := c2 - m) (by omega) (by omega) (by omega) (by omega)
        rw [Nat.zero_add, show m + 64 - m = 64 by omega] at h
        exact h
      have hl64 : ((P.drop m).take 64).length = 64 := by simp; have := HPl.out.1; omega
      have hby : Byt fun j => ((P.drop m).take 64).getD j 0 := fun j => byt_getD (fun x hx => HBy.out x (List.mem_of_mem_drop (List.mem_of_mem_take hx))) j
      have HW := hid (rwords_any _ _ wr hs64 hl64 hby)
      obtain ⟨S0, hS0⟩ : ∃ S0, blocksS P k = S0 := ⟨_, rfl⟩
      have hmix : mixS (fun j => ((P.drop m).take 64).getD j 0) S0 = blocksS P (k + 1) := by
        rw [blocksS, hS0]
        refine mixS_cut (fun j hj => ?_) S0
        rw [← hm]
        simp [blkAt, List.getD_eq_getElem?_getD, hj]
      have HMix := hid hmix
      rw [hS0] at HH
      obtain ⟨b, hb⟩ : ∃ b : Nat → Int, (fun j => ((P.drop m).take 64).getD j 0) = b := ⟨_, rfl⟩
      rw [hb] at HW HMix
      clear hm hM hlt hcb1 hs64 hl64 hby hmix hS0 hb
      go_wp2_with fail
      refine HW.out.mono ?_
      rintro e w5 ⟨v5, rfl, hO5, hU5⟩
      obtain ⟨wg, wc, rfl, hwg, hwc1, hwc2, hwcell⟩ := own_there hO5 (by intro h; have := wL_length b 64; rw [h] at this; simp at this)
      rw [wL_length] at hwc1 hwcell
      rw [wL_length]
      have HWc : Hid (∀ i, i < 64 → w5.cell? ⟨wg, i, none⟩ = some (.int .u32 (wAt b i))) := hid (fun i hi => by rw [hwcell i hi, wL_get hi])
      have HP5 := hid (HP.out.up hU5)
      have HZ5 := hid (HZ.out.up hU5)
      have HH5 := hid (HH.out.up hU5)
      have HK5 := hid (HK.out.up hU5)
      have HU5 := hid (HU.out.trans hU5)
      have hw5 : o + 2 < w5.heap.size := by have := HK5.out.lt; omega
      clear hO5 hU5 hwcell HW HP HZ HH HK HU i1 i2 i3
      go_wp2_with (at_builtin; refine wp_app infoU32 Tryz.underlying120 (by omega) rfl _ _ rfl w5.heap.size (v := .slice (some ⟨w5.heap.size, 0, none⟩) 0 0) rfl rfl (own_empty (Blk.new rfl rfl) (Nat.le_refl _)) (seq8 (HH5.out.alloc _)) (by simp) (by simp) ?_; intro v6 w6 hO6 hg6)
      have hU6 := Up.own ((Up.refl w5).alloc _) (own_empty (e := 113) (k := .u32) (Blk.new rfl rfl) (Nat.le_refl _)) hg6 (Nat.le_refl _)
      obtain ⟨g6, c6, rfl, hg6l, hc61, hc62, hcell6⟩ := own_there hO6 (by simp)
      have hg6b : w5.heap.size ≤ g6 := hO6.block g6 (by simp [Value.ownBlock])
      have HE6 : Hid (EightAt w6 g6 (rnds b S0 0)) := hid (fun i hi => by
        rw [hcell6 i (by simpa using hi)]
        have : i = 0 ∨ i = 1 ∨ i = 2 ∨ i = 3 ∨ i = 4 ∨ i = 5 ∨ i = 6 ∨ i = 7 := by omega
        rcases this with rfl | rfl | rfl | rfl | rfl | rfl | rfl | rfl <;> rfl)
      have hlen8 : ([] ++ [S0.a, S0.b, S0.c, S0.d, S0.e, S0.f, S0.g, S0.h]).length = 8 := rfl
      rw [hlen8] at hc61
      rw [hlen8]
      have HWc6 : Hid (∀ i, i < 64 → w6.cell? ⟨wg, i, none⟩ = some (.int .u32 (wAt b i))) := hid (fun i hi => cup hU6 (HWc.out i hi))
      have HP6 := hid (HP5.out.up hU6)
      have HZ6 := hid (HZ5.out.up hU6)
      have HH6 := hid (HH5.out.up hU6)
      have HK6 := hid (HK5.out.up hU6)
      have HU6 := hid (HU5.out.trans hU6)
      have hg6o : o + 2 < g6 := by omega
      clear hO6 hg6 hcell6 hlen8 hU6 HWc HP5 HZ5 HH5 HK5 HU5 hw5 hg6b
      go_wp2_with fail
      go_loopw [8, 9] (fun vv vt wq => ∃ (t g c : Nat), t ≤ 64 ∧ vt = .int .i64 t ∧ vv = .slice (some ⟨g, 0, none⟩) 8 c ∧ 8 ≤ c ∧ c ≤ 9223372036854775807 ∧ g < wq.heap.size ∧ o + 2 < g ∧ Hid (EightAt wq g (rnds b S0 t)) ∧ Hid (Up w6 wq)) (fun _ vt _ => 64 - (intOf vt).toNat)
      case atStart => exact ⟨0, g6, c6, by omega, rfl, rfl, hc61, hc62, hg6l, hg6o, HE6, hid (Up.refl _)⟩
      case round =>
        clear HE6 hg6l hg6o hc61 hc62
        obtain ⟨t, g, c, ht, rfl, rfl, hc1', hc2', hgl, hgo, HE, HUq⟩ := hrel
        by_cases htl : t < 64
        · have dt : decide ((t : Int) < 64) = true := by simp; omega
          have dtn : decide (t < 64) = true := by simp; omega
          have HN : Hid (rnds b S0 (t + 1) = rnd (rnds b S0 t) (shaK.getD t 0) (wAt b t)) := hid rfl
          have q1 := cup HUq.out (HK6.out.val (arrK_get htl))
          have q2 := cup HUq.out (HWc6.out t htl)
          generalize shaK.getD t 0 = K at *
          generalize wAt b t = W at *
          obtain ⟨X, hX⟩ : ∃ X, rnds b S0 t = X := ⟨_, rfl⟩
          rw [hX] at HE HN
          obtain ⟨A, B, C, D, E, F, G, H⟩ := X
          have z2 : (t : Int) < 64 := by omega
          clear hX
          have f0 := cupF (HE.out 0 (by omega))
          have f1 := cupF (HE.out 1 (by omega))
          have f2 := cupF (HE.out 2 (by omega))
          have f3 := cupF (HE.out 3 (by omega))
          have f4 := cupF (HE.out 4 (by omega))
          have f5 := cupF (HE.out 5 (by omega))
          have f6 := cupF (HE.out 6 (by omega))
          have f7 := cupF (HE.out 7 (by omega))
          have f8 := cupF q1
          have f9 := cupF q2
          simp only [St.get] at f0 f1 f2 f3 f4 f5 f6 f7
          go_wp2_with fail
          refine wp_region_up (by kernel_rfl) (by kernel_rfl) ?_
          repeat (go_big_quiet_step ((first | ((with_reducible (show Calls _ _ #[_, .int .i64 6] _ _)); exact Calls.up_of (rright_6 _ _)) | ((with_reducible (show Calls _ _ #[_, .int .i64 11] _ _)); exact Calls.up_of (rright_11 _ _)) | ((with_reducible (show Calls _ _ #[_, .int .i64 25] _ _)); exact Calls.up_of (rright_25 _ _)))))
          refine wpQuiet_nil ?_
          rintro _ ⟨p, rfl⟩
          obtain ⟨x1, hx1⟩ : ∃ x1, (((H + bits .xor .u32 (bits .xor .u32 (rotr E 6) (rotr E 11)) (rotr E 25) + bits .xor .u32 (bits .and .u32 E F) (bits .and .u32 (bits .xor .u32 (if IntKind.u32.signed = true then (-1 : Int) else IntKind.u32.max) E) G) + K) % 4294967296 + W) % 4294967296) = x1 := ⟨_, rfl⟩
          rw [hx1]
          have HX1 : Hid (rndX ⟨A, B, C, D, E, F, G, H⟩ K W = x1) := hid (by rw [← hx1]; simp only [rndX, bs1, chs, plus, u32_not, IntKind.wrap_u32]; omega)
          have HU7 := hid (HUq.out.trans p.up)
          have HE7 := hid (HE.out.up p.up)
          have hgl7 : g < p.w'.heap.size := by have := p.up.size; omega
          generalize p.w' = w7 at *
          clear hx1 f0 f1 f2 f3 f4 f5 f6 f7 f8 f9 q1 q2 HE HUq hgl p
          have f0 := cupF (HE7.out 0 (by omega))
          have f1 := cupF (HE7.out 1 (by omega))
          have f2 := cupF (HE7.out 2 (by omega))
          have f3 := cupF (HE7.out 3 (by omega))
          have f4 := cupF (HE7.out 4 (by omega))
          have f5 := cupF (HE7.out 5 (by omega))
          have f6 := cupF (HE7.out 6 (by omega))
          have f7 := cupF (HE7.out 7 (by omega))
          simp only [St.get] at f0 f1 f2 f3 f4 f5 f6 f7
          go_wp2_with fail
          refine wp_region_up (by kernel_rfl) (by kernel_rfl) ?_
          repeat (go_big_quiet_step ((first | ((with_reducible (show Calls _ _ #[_, .int .i64 2] _ _)); exact Calls.up_of (rright_2 _ _)) | ((with_reducible (show Calls _ _ #[_, .int .i64 13] _ _)); exact Calls.up_of (rright_13 _ _)) | ((with_reducible (show Calls _ _ #[_, .int .i64 22] _ _)); exact Calls.up_of (rright_22 _ _)))))
          refine wpQuiet_nil ?_
          rintro _ ⟨p, rfl⟩
          obtain ⟨y1, hy1⟩ : ∃ y1, ((bits .xor .u32 (bits .xor .u32 (rotr A 2) (rotr A 13)) (rotr A 22) + bits .xor .u32 (bits .xor .u32 (bits .and .u32 A B) (bits .and .u32 A C)) (bits .and .u32 B C)) % 4294967296) = y1 := ⟨_, rfl⟩
          rw [hy1]
          have HY1 : Hid (rndY ⟨A, B, C, D, E, F, G, H⟩ = y1) := hid (by rw [← hy1]; simp only [rndY, bs0, maj, plus, IntKind.wrap_u32])
          have HU8 := hid (HU7.out.trans p.up)
          have HE8 := hid (HE7.out.up p.up)
          have hgl8 : g < p.w'.heap.size := by have := p.up.size; omega
          generalize p.w' = w8 at *
          clear hy1 f0 f1 f2 f3 f4 f5 f6 f7 HE7 HU7 hgl7 p
          have f0 := HE8.out 0 (by omega)
          have f1 := HE8.out 1 (by omega)
          have f2 := HE8.out 2 (by omega)
          have f3 := HE8.out 3 (by omega)
          have f4 := HE8.out 4 (by omega)
          have f5 := HE8.out 5 (by omega)
          have f6 := HE8.out 6 (by omega)
          simp only [St.get] at f0 f1 f2 f3 f4 f5 f6
          go_wp2_with fail
          go_still_tail 26, (by kernel_rfl)
          change wpList _ _ _ _ _ w8.drew
          go_wp2
          go_roundw
          case rel => exact ⟨t + 1, w8.heap.size, 8, by omega, by go_num, rfl, by omega, by omega, by simp, by omega, hid (eight_blk (Blk.new rfl (by rw [HN.out]; simp only [rnd, HX1.out, HY1.out, plus, IntKind.wrap_u32]; rfl))), hid ((HU8.out.drew).alloc _)⟩
          case measure => simp [intOf]; omega
        · have ht64 : t = 64 := by omega
          rw [ht64] at HE
          rw [show (t : Int) = 64 by omega]
          clear ht64
          have HAll := hid (sMix_all b S0)
          have HSz := hid (sMix_zero S0 (rnds b S0 64))
          rw [HMix.out] at HAll
          obtain ⟨V, hV⟩ : ∃ V, rnds b S0 64 = V := ⟨_, rfl⟩
          rw [hV] at HE HAll HSz
          clear hV
          have HPq := hid (HP6.out.up HUq.out)
          have HZq := hid (HZ6.out.up HUq.out)
          have HHq := hid (HH6.out.up HUq.out)
          have HKq := hid (HK6.out.up HUq.out)
          have HUq2 := hid (HU6.out.trans HUq.out)
          rw [HSz.out] at HHq
          clear HP6 HZ6 HH6 HK6 HU6 HUq HWc6
          go_wp2_with fail
          go_loopw [12] (fun vi wz => ∃ i : Nat, i ≤ 8 ∧ vi = .int .i64 i ∧ Hid (OwnS 5 .u8 wz (o + 2) (.slice (some ⟨pb, 0, none⟩) M c2) P) ∧ Hid (Blk wz o 31 (arrK .u8 (fun _ => 0) 32)) ∧ Hid (Blk wz (o + 1) 113 (arrK .u32 (sMix S0 V i) 8)) ∧ Hid (Blk wz (o + 2) 113 (arrK .u32 (fun i => shaK.getD i 0) 64)) ∧ Hid (EightAt wz g V) ∧ Hid (Up w wz)) (fun vi _ => 8 - (intOf vi).toNat)
          case atStart => exact ⟨0, by omega, rfl, by rw [← HM.out]; exact HPq, HZq, HHq, HKq, HE, HUq2⟩
          case round =>
            clear HPq HZq HHq HKq HE HUq2
            obtain ⟨i, hi, rfl, HP, HZ, HH, HK, HE, HU⟩ := hrel
            by_cases hil : i < 8
            · have q1 := HH.out.val (sMix_at S0 V hil)
              have q2 := HE.out i hil
              have q3 := HH.out.thawed i
              have HN := hid (sMix_step S0 V i)
              have di : decide ((i : Int) < 8) = true := by simp; omega
              have din : decide (i < 8) = true := by simp; omega
              have z1 : (i : Int) < c := by omega
              have z2 : i < c := by omega
              have z3 : (i : Int) < 8 := by omega
              have z4 : (0 : Int) ≤ i := by omega
              generalize S0.get i = x at *
              generalize V.get i = y at *
              go_wp2_with fail
              go_still_tail 12, (by kernel_rfl)
              change wpList _ _ _ _ _ wr.drew
              have hud := (Up.refl wr).drew
              go_wp2
              go_roundw
              case rel => exact ⟨i + 1, by omega, by go_num, hid (own_there2 (HP.out.up hud) (grown_cell _ (o + 1) i _) (by omega)), hid ((HZ.out.up hud).apart (by show o ≠ o + 1; omega) _), hid (by rw [← HN.out, show plus x y = (x + y) % 4294967296 from IntKind.wrap_u32 _]; exact (HH.out.up hud).wrote _ _), hid ((HK.out.up hud).apart (by show o + 2 ≠ o + 1; omega) _), hid ((HE.out.up hud).wrote (by omega)), hid ((HU.out.drew).setCell (by have := HOo.out; show w.heap.size ≤ o + 1; omega) _)⟩
              case measure => simp [intOf]; omega
            · have HH2 := hid HH.out
              rw [show i = 8 by omega, HAll.out] at HH2
              clear HH HE
              go_wp2_with fail
              go_roundw
              case rel => exact ⟨k + 1, by omega, congrArg (Value.int .i64) (by have := Hm.out; omega), HP, HZ, HH2, HK, HU⟩
              case measure => have := HM.out; have := Hm.out; simp [intOf]; omega
    · have hkN2 : k = N := by omega
      have HSha2 : Hid (shaB xs = outB (blocksS P k)) := hid (by rw [hkN2]; exact HSha.out)
      obtain ⟨S, hS⟩ : ∃ S, blocksS P k = S := ⟨_, rfl⟩
      rw [hS] at HH HSha2
      clear hS HP HK
      subst hkN2
      obtain ⟨m, hm⟩ : ∃ m, 64 * k = m := ⟨_, rfl⟩
      rw [hm]
      clear hm HPl HBy
      go_wp2_with fail
      obtain ⟨f, hf⟩ : ∃ f : Nat → Int, outB S = f := ⟨_, rfl⟩
      have HF := hid hf
      rw [hf] at HSha2
      clear hf
      obtain ⟨g, hg⟩ : ∃ g, wr.heap.size = g := ⟨_, rfl⟩
      have hog : o + 1 < g := by have := HH.out.lt; omega
      rw [hg]
      go_loopw [14] (fun vi wz => ∃ i : Nat, i ≤ 32 ∧ vi = .int .i64 i ∧ Hid (Blk wz g 31 (arrK .u8 (pfill f i) 32)) ∧ Hid (Blk wz (o + 1) 113 (stA S)) ∧ Hid (Blk wz o 31 (arrK .u8 (fun _ => 0) 32)) ∧ Hid (Up w wz)) (fun vi _ => 32 - (intOf vi).toNat)
      case atStart => exact ⟨0, by omega, rfl, hid (Blk.new hg (zero32.trans (pfill_zero _ _ _))), hid (HH.out.alloc _), hid (HZ.out.alloc _), hid (HU.out.alloc _)⟩
      case round =>
        clear HH HZ HU hg
        obtain ⟨i, hi, rfl, HG, HH, HZ, HU⟩ := hrel
        by_cases hil : i < 32
        · obtain ⟨a, ha⟩ : ∃ a, i / 4 = a := ⟨_, rfl⟩
          obtain ⟨r, hr⟩ : ∃ r, i % 4 = r := ⟨_, rfl⟩
          have hir : i = 4 * a + r := by omega
          have ha8 : a < 8 := by omega
          have hr4 : r < 4 := by omega
          have HFI : Hid (f i = S.get a / 2 ^ (24 - 8 * r) % 256) := hid (by rw [← HF.out, outB, ha, hr])
          have HGw := hid (pfill_put .u8 f i 32)
          have g1 := HG.out.val (pfill_at (k := .u8) (f := f) (i := i) (n := 32) hil)
          have g2 := HG.out.thawed i
          have HHx := HH.out
          rw [stA_arr] at HHx
          have q1 := HHx.val (arrK_get ha8)
          clear HHx
          have k1 : ((i : Int)).tdiv 4 = (a : Int) := by rw [Int.tdiv_eq_ediv_of_nonneg (by omega)]; omega
          have k2 : ((i : Int)).tmod 4 = (r : Int) := by rw [Int.tmod_eq_emod_of_nonneg (by omega)]; omega
          have k3 : (i : Int) / 4 = (a : Int) := by omega
          have k4 : (i : Int) % 4 = (r : Int) := by omega
          generalize S.get a = x at *
          clear ha hr hir
          go_wp2_with fail
          go_roundw
          case rel => exact ⟨i + 1, by omega, by go_num, hid (by rw [← HGw.out, HFI.out]; exact HG.out.wrote _ _), hid (HH.out.apart (by show o + 1 ≠ g; omega) _), hid (HZ.out.apart (by show o ≠ g; omega) _), hid (HU.out.setCell (by have := HOo.out; show w.heap.size ≤ g; omega) _)⟩
          case measure => simp [intOf]; omega
        · have HG2 := hid HG.out
          rw [show i = 32 by omega, pfill_all] at HG2
          clear HG
          have HSV : Hid (hashV (shaB xs) = .agg (arrK .u8 f 32)) := hid (by rw [hashV, HSha2.out])
          go_wp2_with (first | (refine wpList_load_row rfl 31 _ rfl g rfl 31 (arrK .u8 f 32) (0, 0) _ HG2.out Tryz.underlying31 rfl (by rw [arrK_size]; kernel_rfl) ?_) | (refine wpList_store_rowTo rfl 31 _ _ rfl rfl _ _ rfl rfl 31 _ HZ.out (by rw [arrK_size]; kernel_rfl) (by rw [arrK_size, arrK_size]) arrK_one ?_))
          refine bodyPost_ret (v := .agg (arrK .u8 f 32)) (results_cell_row rfl _ _ o 31 _ (0, 0) _ (by rfl) (HZ.out.row _) Tryz.underlying31 rfl (by rw [arrK_size]; kernel_rfl)) rfl ⟨by rw [HSV.out], HU.out.setRow (by have := HOo.out; omega) _⟩
end Go.Proofs.YtdbhleinhpiohaaGreatDoor
namespace Go.Proofs.YtdbhleinhpiohaaGreatDoor
open Go.RowKit Go.Sp
set_option maxHeartbeats 2000000
set_option maxRecDepth 20000

/-- The number of the first k bytes. -/
def firK (h : Nat → Int) : Nat → Int
  | 0 => 0
  | k + 1 => firK h k * 256 + h k
theorem firK_range {h : Nat → Int} (hB : Byt h) : ∀ k, 0 ≤ firK h k ∧ firK h k < 256 ^ k
  | 0 => by simp [firK]
  | k + 1 => by
    have ih := firK_range hB k
    have hb := hB k
    have e : (256 : Int) ^ (k + 1) = 256 ^ k * 256 := Int.pow_succ _ _
    rw [firK, e]
    omega

theorem or_byte64 (x c : Int) (h0 : 0 ≤ x) (h1 : x < 72057594037927936) (h2 : 0 ≤ c) (h3 : c ≤ 255) : bits .or .u64 (x * 256) c = x * 256 + c := by
  have := bits_join .u64 64 (by decide) (fun n a b => by rw [IntKind.wrap_u64]; omega) 8 (x := x * 256) (y := c) (by omega) (by omega) (by omega) (by omega) (by omega) (by omega)
  exact this

/-- The cells of a source that draws. -/
def srcA (h : Nat → Int) (c : Int) (f : Bool) : Array Value := (drwA h c).push (.bool f)
theorem srcA_size (h : Nat → Int) (c : Int) (f : Bool) : (srcA h c f).size = 34 := by simp [srcA, drwA_size]
theorem srcA_full (h : Nat → Int) (c : Int) (f : Bool) : (srcA h c f)[33]? = some (.bool f) := by
  rw [srcA, Array.getElem?_push, if_pos (by rw [drwA_size])]
theorem srcA_drw (h : Nat → Int) (c : Int) (f : Bool) {i : Nat} (hi : i < 33) : (srcA h c f)[i]? = (drwA h c)[i]? := by
  rw [srcA, Array.getElem?_push, if_neg (by rw [drwA_size]; omega)]
theorem srcA_ctr (h : Nat → Int) (c : Int) (f : Bool) : (srcA h c f)[32]? = some (.int .i64 c) := by
  rw [srcA_drw _ _ _ (by omega), drwA_ctr]
theorem srcA_setCtr (h : Nat → Int) (c d : Int) (f : Bool) : (srcA h c f).setIfInBounds 32 (.int .i64 d) = srcA h d f := by
  apply Array.ext_getElem?
  intro i
  rw [Array.getElem?_setIfInBounds, srcA_size]
  by_cases h32 : i = 32
  · subst h32; rw [if_pos rfl, if_pos (by omega), srcA_ctr]
  · rw [if_neg (Ne.symm h32)]
    by_cases h33 : i = 33
    · subst h33; rw [srcA_full, srcA_full]
    · by_cases hi : i < 32
      · rw [srcA_drw _ _ _ (by omega), srcA_drw _ _ _ (by omega), drwA_get _ _ hi, drwA_get _ _ hi]
      · rw [Array.getElem?_eq_none (by rw [srcA_size]; omega), Array.getElem?_eq_none (by rw [srcA_size]; omega)]
theorem srcA_setFull (h : Nat → Int) (c : Int) (f g : Bool) : (srcA h c f).setIfInBounds 33 (.bool g) = srcA h c g := by
  apply Array.ext_getElem?
  intro i
  rw [Array.getElem?_setIfInBounds, srcA_size]
  by_cases h33 : i = 33
  · subst h33; rw [if_pos rfl, if_pos (by omega), srcA_full]
  · rw [if_neg (Ne.symm h33)]
    by_cases hi : i < 33
    · rw [srcA_drw _ _ _ hi, srcA_drw _ _ _ hi]
    · rw [Array.getElem?_eq_none (by rw [srcA_size]; omega), Array.getElem?_eq_none (by rw [srcA_size]; omega)]
end Go.Proofs.YtdbhleinhpiohaaGreatDoor
namespace Go.Proofs.YtdbhleinhpiohaaGreatDoor
open Go.RowKit Go.Sp
set_option maxHeartbeats 2000000
set_option maxRecDepth 20000

theorem src_drw {w : World} {b : Nat} {t : TypeId} {h : Nat → Int} {c : Int} {f : Bool} (hb : Blk w b t (srcA h c f)) : w.rangeAt b 0 (drwA h c).toList := fun j v hv => by
  rw [Nat.zero_add, hb.read]
  have hj : j < 33 := by
    have := (List.getElem?_eq_some_iff.1 hv).1
    rw [Array.length_toList, drwA_size] at this
    exact this
  rw [srcA_drw _ _ _ hj, ← hv, Array.getElem?_toList]

theorem grown_up {w w' : World} {b : Nat} (hU : Up w w') : w.grownBy w' (some b) := ⟨hU.below.os, hU.below.tape, hU.below.output, hU.size, fun _ hk _ => hU.block hk⟩
theorem grown_trans {a b c : World} {r : Option Nat} (h : a.grownBy b r) (k : b.grownBy c r) : a.grownBy c r :=
  ⟨k.os.trans h.os, k.tape.trans h.tape, k.output.trans h.output, Nat.le_trans h.size k.size, fun i hi hr => (k.block i (Nat.lt_of_lt_of_le hi h.size) hr).trans (h.block i hi hr)⟩
theorem grown_set {a w : World} {b : Nat} (h : a.grownBy w (some b)) (i : Nat) (v : Value) : a.grownBy (w.setCell ⟨b, i, none⟩ v) (some b) :=
  grown_trans h ⟨rfl, rfl, rfl, by simp [World.setCell], fun _ _ hr => Below.heap_setCell w _ v _ (fun e => hr (by rw [e]))⟩
theorem grown_row {a w : World} {b : Nat} (h : a.grownBy w (some b)) {g : Nat} (hg : a.heap.size ≤ g) (cs : Array Value) : a.grownBy (w.setRow g cs) (some b) := by
  have hz := below_setRow ((Up.refl w).below.mono (Nat.zero_le _)) (B := 0) (g := g) (Nat.zero_le _) cs
  exact ⟨hz.os.trans h.os, hz.tape.trans h.tape, hz.output.trans h.output, Nat.le_trans h.size hz.size, fun k hk hr => (setRow_other w g k cs (by omega)).trans (h.block k hk hr)⟩

/-- A digest of zeros. -/
def zeroH : Nat → Int := fun _ => 0
/-- A block of a source, the counter after it, and whether there was none. -/
def blkB (h : Nat → Int) (c : Int) : Nat → Int := if c = 1099511627776 then zeroH else shaB (posL h c)
def blkC (c : Int) : Int := if c = 1099511627776 then c else c + 1
def blkF (c : Int) (f : Bool) : Bool := if c = 1099511627776 then true else f

theorem posL_byt {h : Nat → Int} (hB : Byt h) (c : Int) : ∀ x ∈ posL h c, 0 ≤ x ∧ x ≤ 255 := by
  intro x hx
  simp only [posL, List.mem_append, hList, List.mem_map] at hx
  rcases hx with ⟨i, _, rfl⟩ | hx
  · exact hB i
  · exact beL_byt _ _ x hx

end Go.Proofs.YtdbhleinhpiohaaGreatDoor
namespace Go.Proofs.YtdbhleinhpiohaaGreatDoor
open Go.RowKit Go.Sp
set_option maxHeartbeats 2000000
set_option maxRecDepth 20000

/-- How many bits are drawn for a number below q. -/
def maskN (q : Int) : Nat := Lib.bitLen (q - 1).toNat
theorem maskN_le {q : Int} (h0 : 1 ≤ q) (h1 : q ≤ 2305843009213693951) : maskN q ≤ 61 ∧ q ≤ 2 ^ maskN q := by
  unfold maskN
  by_cases hq : (q - 1).toNat = 0
  · rw [hq]
    have : Lib.bitLen 0 = 0 := by decide
    rw [this]
    omega
  · have hb := Lib.bitLenAux_bounds 64 (q - 1).toNat (by omega) hq
    change 1 ≤ Lib.bitLen (q - 1).toNat ∧ 2 ^ (Lib.bitLen (q - 1).toNat - 1) ≤ (q - 1).toNat ∧ (q - 1).toNat < 2 ^ Lib.bitLen (q - 1).toNat at hb
    generalize Lib.bitLen (q - 1).toNat = n at *
    obtain ⟨b1, b2, b3⟩ := hb
    constructor
    · refine Nat.le_of_not_lt fun hn => ?_
      have : 2 ^ 61 ≤ 2 ^ (n - 1) := Nat.pow_le_pow_right (by decide) (by omega)
      omega
    · have : ((2 ^ n : Nat) : Int) = 2 ^ n := by simp
      omega

theorem u64_mask (x : Int) (n : Nat) (h0 : 0 ≤ x) (h1 : x < 18446744073709551616) (hn : n ≤ 63) : bits .and .u64 x (2 ^ n - 1) = x % 2 ^ n := by
  obtain ⟨m, rfl⟩ : ∃ m : Nat, x = m := ⟨x.toNat, by omega⟩
  have hp : (2 : Nat) ^ n ≤ 2 ^ 63 := Nat.pow_le_pow_right (by decide) hn
  have hp0 : 0 < (2 : Nat) ^ n := Nat.pow_pos (by decide)
  have e : ((2 : Int) ^ n - 1) = ((2 ^ n - 1 : Nat) : Int) := by
    rw [Int.natCast_sub (by omega)]; simp
  rw [e]
  have := bits_and_u64_nat m (2 ^ n - 1) (by omega) (by omega)
  rw [this, Nat.and_two_pow_sub_one_eq_mod]
  simp

/-- A number below q: the number (the last that was drawn, if all were too great, modulo q), the counter, and whether there was no block. -/
def numT (h : Nat → Int) (q : Int) : Nat → Int → Int → Int × Int × Bool
  | 0, c, x => (x % q, c, false)
  | n + 1, c, _ => if c = 1099511627776 then (0, c, true) else if firK (shaB (posL h c)) 8 % 2 ^ maskN q < q then (firK (shaB (posL h c)) 8 % 2 ^ maskN q, c + 1, false) else numT h q n (c + 1) (firK (shaB (posL h c)) 8 % 2 ^ maskN q)

theorem numT_most {h : Nat → Int} {q : Int} {n : Nat} {c x : Int} (hn : 1 ≤ n) (hc : c = 1099511627776) : numT h q n c x = (0, c, true) := by
  cases n with
  | zero => omega
  | succ n => rw [numT, if_pos hc]
theorem numT_step {h : Nat → Int} {q : Int} {n : Nat} {c x y : Int} (hc : c ≠ 1099511627776) (hy : firK (shaB (posL h c)) 8 % 2 ^ maskN q = y) : numT h q (n + 1) c x = if y < q then (y, c + 1, false) else numT h q n (c + 1) y := by
  rw [numT, if_neg hc, hy]

theorem Blk.grownOut {w w' : World} {g b : Nat} {t : TypeId} {cs : Array Value} (h : Blk w g t cs) (hg : w.grownBy w' (some b)) (hne : g ≠ b) : Blk w' g t cs := h.grown hg (by simpa using hne)

theorem grown_up_trans {a w w' : World} {b : Nat} (h : a.grownBy w (some b)) (hU : Up w w') : a.grownBy w' (some b) := grown_trans h (grown_up hU)

/-- The tables outlive what turns a source. -/
theorem TabS.grown {w w' : World} {b : Nat} {t : TypeId} {h : Nat → Int} {c : Int} {f : Bool} (hT : TabS w) (hb : Blk w b t (srcA h c f)) (hg : w.grownBy w' (some b)) : TabS w' := by
  obtain ⟨⟨t1, fr1, h1⟩, h2⟩ := hT
  have n1 : 0 ≠ b := fun e => by
    have hb' : w.heap[b]? = some (.cells (srcA h c f) t (0, 0)) := hb
    rw [e, hb'] at h1
    simp only [Option.some.injEq, Obj.cells.injEq] at h1
    have := congrArg Array.size h1.1
    rw [srcA_size, stA_size] at this
    omega
  have n2 : 2 ≠ b := fun e => by
    have := h2 0 (by omega)
    rw [e, hb.val ((srcA_drw h c f (by omega)).trans (drwA_get h c (by omega)))] at this
    simp at this
  refine ⟨⟨t1, fr1, ?_⟩, fun i hi => ?_⟩
  · rw [hg.block _ (Array.getElem?_eq_some_iff.1 h1).1 (by simpa using n1)]; exact h1
  · exact hg.cell (h2 i hi) (by simpa using n2)

end Go.Proofs.YtdbhleinhpiohaaGreatDoor
