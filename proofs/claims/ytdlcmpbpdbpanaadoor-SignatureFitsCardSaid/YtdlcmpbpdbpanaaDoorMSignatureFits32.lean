/- The reference's restrictive signatures: which are right. A row loaded in a region that draws its order, walked once. Over any program. A part of a slice of integers, as one value that nobody looks into. -/
import Derived.Test.YtdlcmpbpdbpanaaDoorMSignatureFits29
import Derived.Test.YtdlcmpbpdbpanaaDoorMSignatureFits31
import Derived.Test.YtdlcmpbpdbpanaaDoorMSignatureFits7
import Derived.Test.YtdlcmpbpdbpanaaDoorMSignatureFits9
import Derived.Test.YtdlcmpbpdbpanaaDoorMSignatureFits8
import Derived.Laws.Rows
namespace Go.Proofs.YtdlcmpbpdbpanaaDoor
open Go.RowKit Go.Sp
set_option maxHeartbeats 4000000
set_option maxRecDepth 20000

end Go.Proofs.YtdlcmpbpdbpanaaDoor
namespace Go.Sp
open Go.RowKit

theorem quiet_load_row {P : Program} {C : World → Prop} {a : Act} {o : Oper} {K : Act → Prop} (ty : TypeId) (x : Operand) (ho : o.op = .load ty x) (g : Nat) (hx : a.eval x = .pointer (some ⟨g, 0, none⟩)) (t : TypeId) (cs : Array Value) (d : TypeDesc)
    (hC : ∀ w, C w → Blk w g t cs) (hu : P.underlying ty = some d) (hd : (match d with | .struct _ | .array _ _ => true | _ => false) = true) (hi : (P.info? ty).map (·.size) = some cs.size) (hk : K (a.put o.dst (.agg cs))) : o.quiet P a C K :=
  ⟨.agg cs, fun w hw => by
    unfold Oper.quietAt execOp
    simp only [ho, hx, Instr.loadAt, Instr.sureAddr, Sem.run_bind, Sem.run_pure, Result.andThen_ok, run_loadVar_row w g t ty cs (0, 0) d (hC w hw) hu hd hi]
    exact ⟨rfl, rfl⟩, hk⟩

theorem Blk.from {w : World} {g : Nat} {t : TypeId} {cs : Array Value} (h : Blk w g t cs) : ∀ w', (∃ p : UpFrom w, w' = p.w') → Blk w' g t cs := fun _ ⟨p, hp⟩ => hp ▸ h.up p.up

/-- The same at an operation with a guard that says yes. -/
theorem wpList_load_rowG {P : Program} {ops : Array Oper} {rest : List Oper} {o : Oper} {a : Act} {w : World} {Q : Exit → Act → World → Prop} (hw : Region.wanted o (yielded ops a.tmps) = true) (ty : TypeId) (x : Operand) (ho : o.op = .load ty x)
    (g : Nat) (hx : a.eval x = .pointer (some ⟨g, 0, none⟩)) (t : TypeId) (cs : Array Value) (fr : Nat × Nat) (d : TypeDesc) (hg : w.heap[g]? = some (.cells cs t fr))
    (hu : P.underlying ty = some d) (hd : (match d with | .struct _ | .array _ _ => true | _ => false) = true) (hi : (P.info? ty).map (·.size) = some cs.size)
    (h : wpList P ops Q rest (a.put o.dst (.agg cs)) w) : wpList P ops Q (o :: rest) a w :=
  wpList_step fun K hK => by
    rw [if_pos hw]
    exact wp_load_row ty x ho g hx t cs fr d hg hu hd hi (hK _ _ h)
end Go.Sp
namespace Go.Proofs.YtdlcmpbpdbpanaaDoor
open Go.RowKit Go.Sp

theorem sliced_ints {w : World} {v : Value} {xs : List Int} (h : IntsAt w v xs) (r : Room v) (lo hi : Nat) (h1 : lo ≤ hi) (h2 : hi ≤ xs.length) :
    ∃ a n cap, v = .slice a n cap ∧ n = xs.length ∧ n ≤ cap ∧ IntsAt w (sliced a lo hi cap 1) ((xs.drop lo).take (hi - lo)) := by
  obtain ⟨a, n, cap, rfl, hle, hmx, hnone⟩ := r
  obtain ⟨hl, a', cap', hv, hc⟩ := id h
  simp only [Value.slice.injEq] at hv
  obtain ⟨rfl, rfl, rfl⟩ := hv
  refine ⟨a, xs.length, cap, rfl, rfl, hle, ?_⟩
  have hlen : ((xs.drop lo).take (hi - lo)).length = hi - lo := by simp; omega
  by_cases hne : hi - lo = 0
  · have hnil : (xs.drop lo).take (hi - lo) = [] := List.length_eq_zero_iff.1 (by omega)
    rw [hnil]
    unfold sliced
    rw [hne]
    exact ⟨by simp, _, _, rfl, fun hx => absurd rfl hx⟩
  · obtain ⟨b, off, rfl, hcell⟩ := hc (by rintro rfl; simp at h2; omega)
    have := ints_sub (c := cap - lo) h h1 h2
    unfold sliced
    have hcap : cap ≠ lo := by omega
    simpa [hcap, Addr.add_lit] using this

theorem run_lo (a : Option Addr) (n cap k : Nat) (h : k ≤ n) (W : World) : (Instr.slice 44 (.slice a n cap) (some (.int .i64 k)) none none).run Tryd.prog W = .ok (sliced a k n cap 1) W := by
  rw [run_slice_l (P := Tryd.prog) W 44 a n cap (by kernel_rfl) .i64 k (by omega) (by omega)]
  simp [show ∀ W, (sizeOf (Tryd.prog.elem 44)).run Tryd.prog W = .ok 1 W from fun W => by kernel_rfl, Result.andThen]

theorem run_hi (a : Option Addr) (n cap k : Nat) (h : k ≤ cap) (W : World) : (Instr.slice 44 (.slice a n cap) none (some (.int .i64 k)) none).run Tryd.prog W = .ok (sliced a 0 k cap 1) W := by
  rw [run_slice_h (P := Tryd.prog) W 44 a n cap (by kernel_rfl) .i64 k (by omega) (by omega)]
  simp [show ∀ W, (sizeOf (Tryd.prog.elem 44)).run Tryd.prog W = .ok 1 W from fun W => by kernel_rfl, Result.andThen]

/-- v[:k] and v[k:]. -/
theorem sub_runs {w : World} {a : Option Addr} {n cap : Nat} {xs : List Int} (h : IntsAt w (.slice a n cap) xs) (r : Room (.slice a n cap)) (k : Nat) (hk : k ≤ n) :
    ∃ u v, (∀ W, (Instr.slice 44 (.slice a n cap) none (some (.int .i64 k)) none).run Tryd.prog W = .ok u W) ∧ (∀ W, (Instr.slice 44 (.slice a n cap) (some (.int .i64 k)) none none).run Tryd.prog W = .ok v W) ∧
      IntsAt w u (xs.take k) ∧ IntsAt w v (xs.drop k) := by
  have hn : n = xs.length := by
    obtain ⟨_, _, _, hv, _⟩ := h
    simp only [Value.slice.injEq] at hv
    exact hv.2.1
  obtain ⟨a1, n1, c1, hv1, _, hle, i1⟩ := sliced_ints h r 0 k (by omega) (by omega)
  obtain ⟨a2, n2, c2, hv2, _, _, i2⟩ := sliced_ints h r k n (by omega) (by omega)
  simp only [Value.slice.injEq] at hv1 hv2
  obtain ⟨rfl, rfl, rfl⟩ := hv1
  obtain ⟨rfl, -, rfl⟩ := hv2
  refine ⟨_, _, run_hi a n cap k (by omega), run_lo a n cap k hk, by simpa using i1, ?_⟩
  rw [List.take_of_length_le (by simp; omega)] at i2
  exact i2
end Go.Proofs.YtdlcmpbpdbpanaaDoor
