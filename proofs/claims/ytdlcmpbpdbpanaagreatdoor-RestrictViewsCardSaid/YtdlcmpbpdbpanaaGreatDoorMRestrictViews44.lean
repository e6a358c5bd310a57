/- A row loaded in a region that draws its order, walked once. Over any program. RestrictKeys: the example of the chapter, and the walk. -/
import Derived.Test.YtdlcmpbpdbpanaaGreatDoorMRestrictViews10
import Derived.Test.YtdlcmpbpdbpanaaGreatDoorMRestrictViews14
import Derived.Test.YtdlcmpbpdbpanaaGreatDoorMRestrictViews27
import Derived.Laws.Rows
namespace Go.Sp
open Go.RowKit

theorem quiet_load_row {P : Program} {C : World → Prop} {a : Act} {o : Oper} {K : Act → Prop} (ty : TypeId) (x : Operand) (ho : o.op = .load ty x) (g : Nat) (hx : a.eval x = .pointer (some ⟨g, 0, none⟩)) (t : TypeId) (cs : Array Value) (d : TypeDesc)
    (hC : ∀ w, C w → Blk w g t cs) (hu : P.underlying ty = some d) (hd : (match d with | .struct _ | .array _ _ => true | _ => false) = true) (hi : (P.info? ty).map (·.size) = some cs.size) (hk : K (a.put o.dst (.agg cs))) : o.quiet P a C K :=
  ⟨.agg cs, fun w hw => by
    unfold Oper.quietAt execOp
    simp only [ho, hx, Instr.loadAt, Instr.sureAddr, Sem.run_bind, Sem.run_pure, Result.andThen_ok, run_loadVar_row w g t ty cs (0, 0) d (hC w hw) hu hd hi]
    exact ⟨rfl, rfl⟩, hk⟩

theorem Blk.from {w : World} {g : Nat} {t : TypeId} {cs : Array Value} (h : Blk w g t cs) : ∀ w', (∃ p : UpFrom w, w' = p.w') → Blk w' g t cs := fun _ ⟨p, hp⟩ => hp ▸ h.up p.up

/-- The same at an operation with a guard that says yes. -/
theorem wpList_load_rowG {P : Program} {ops : Array Oper} {rest : List Oper} {o : Oper} {a : Act} {w : World} {Q : Exit → Act → World → Prop} (hw : Region.wanted o (yielded ops a.tmps) = true) (ty : TypeId) (x : Operand) (ho : o.op = .load ty x)
    (g : Nat) (hx : a.eval x = .pointer (some ⟨g, 0, none⟩)) (t : TypeId) (cs : Array Value) (fr : Nat × Nat) (d : TypeDesc) (hg : w.heap[g]? = some (.cells cs t fr))
    (hu : P.underlying ty = some d) (hd : (match d with | .struct _ | .array _ _ => true | _ => false) = true) (hi : (P.info? ty).map (·.size) = some cs.size)
    (h : wpList P ops Q rest (a.put o.dst (.agg cs)) w) : wpList P ops Q (o :: rest) a w :=
  wpList_step fun K hK => by
    rw [if_pos hw]
    exact wp_load_row ty x ho g hx t cs fr d hg hu hd hi (hK _ _ h)
end Go.Sp
namespace Go.Proofs.YtdlcmpbpdbpanaaGreatDoor
open Go.RowKit Go.Sp
set_option maxHeartbeats 2000000
set_option maxRecDepth 20000

theorem grp_new {w : World} {r : Nat} {x y z : Int} {t : TypeId} (hr : w.heap.size = r) : GrpAt (w.alloc (.cells #[.int .i64 x, .int .i64 y, .int .i64 z] t)) r x y z := by
  subst hr
  exact ⟨by go_simp, by go_simp, by go_simp⟩

theorem awake25 (w : World) (hT : Tab w) : Calls Tryz.prog 15 #[] w fun e w' => e = .returned (.bool true) ∧ Up w w' := by
  have HT := hid hT
  clear hT
  have H1 := hid (show errE (bvB 23 11 4 2 3 6) (nzB 11 1) = 0 by decide +kernel)
  have H2 := hid (show orZ 0 (pwi 23 4 1) = 4 by decide +kernel)
  have H3 := hid (show orZ 0 (pwi 23 2 1) = 2 by decide +kernel)
  have H4 := hid (show orZ 0 (pwi 23 3 1) = 3 by decide +kernel)
  have H5 := hid (show errE (bvB 23 11 4 2 3 6) (nzB 11 1 && (gnB 23 11 8 && exB 11 0)) = 0 by decide +kernel)
  have H6 := hid (show orZ 0 (pwi 23 8 1) = 8 by decide +kernel)
  have H7 := hid (show orZ 0 (pwi 23 4 0) = 1 by decide +kernel)
  have H8 := hid (show orZ 0 (pwi 23 8 0) = 1 by decide +kernel)
  have H9 := hid (show errE (bvB 23 11 4 2 3 6) (nzB 11 1 && (exB 11 0 && exB 11 7)) = 0 by decide +kernel)
  have H10 := hid (show orZ 0 ((7 * 1 % 11 + 0) % 11) = 7 by decide +kernel)
  go_enter Tryz.func15, Tryz.ntmps15
  go_wp2_with fail
  have HA := hid (bas_reads (o := .cells #[.int .i64 23, .int .i64 11, .int .i64 4, .int .i64 2, .int .i64 3, .int .i64 6] 25) rfl (Up.refl (w.alloc _)))
  refine (resKey_any 23 11 4 2 3 6 1 _ (by omega) (by omega) (HT.out.up ((Up.refl w).alloc _))).mono ?_
  rintro e w1 ⟨rfl, hU1⟩
  rw [H1.out, H2.out, H3.out, H4.out]
  have HA1 := hid (HA.out.up hU1)
  have HU1 := hid (((Up.refl w).alloc _).trans hU1)
  clear hU1 HA
  obtain ⟨⟨c0, c1, c2⟩, c3, c4, c5⟩ := HA1.out
  have hlt := cell_lt c0
  go_wp2_with fail
  refine (resOffer_any 23 11 4 2 3 6 1 8 0 _ (by omega) (by omega) (HT.out.up (HU1.out.alloc _))).mono ?_
  rintro e w2 ⟨rfl, hU2⟩
  rw [H5.out, H6.out, H7.out, H8.out]
  have HA2 := hid ((HA1.out.up ((Up.refl w1).alloc _)).up hU2)
  have HK2 := hid ((grp_new (w := w1) (x := 4) (y := 2) (z := 3) (t := 27) rfl).up hU2)
  have HU2 := hid ((HU1.out.alloc _).trans hU2)
  clear hU2 c0 c1 c2 c3 c4 c5 HA1
  obtain ⟨⟨c0, c1, c2⟩, c3, c4, c5⟩ := HA2.out
  go_wp2_with fail
  refine (resAnswer_any 23 11 4 2 3 6 1 0 7 _ (by omega) (by omega) (HT.out.up HU2.out)).mono ?_
  rintro e w3 ⟨rfl, hU3⟩
  rw [H9.out, H10.out]
  obtain ⟨e0, e1, e2⟩ := HK2.out.up hU3
  clear c0 c1 c2 c3 c4 c5
  go_wp2
  go_ret
  exact ⟨rfl, HU2.out.trans hU3⟩

end Go.Proofs.YtdlcmpbpdbpanaaGreatDoor
