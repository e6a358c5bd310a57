/- A row loaded in a region that draws its order, walked once. Over any program. Parts of slices. A part of a slice of integers, as one value that nobody looks into. Package unlink: the methods of a field; the first error. -/
import Derived.Test.YtdlcmpbpdbpanaaDoorMB2
import Derived.Test.YtdlcmpbpdbpanaaDoorMB12
import Derived.Test.YtdlcmpbpdbpanaaDoorMB22
import Derived.Laws.Rows
namespace Go.Sp
open Go.RowKit

theorem quiet_load_row {P : Program} {C : World → Prop} {a : Act} {o : Oper} {K : Act → Prop} (ty : TypeId) (x : Operand) (ho : o.op = .load ty x) (g : Nat) (hx : a.eval x = .pointer (some ⟨g, 0, none⟩)) (t : TypeId) (cs : Array Value) (d : TypeDesc)
    (hC : ∀ w, C w → Blk w g t cs) (hu : P.underlying ty = some d) (hd : (match d with | .struct _ | .array _ _ => true | _ => false) = true) (hi : (P.info? ty).map (·.size) = some cs.size) (hk : K (a.put o.dst (.agg cs))) : o.quiet P a C K :=
  ⟨.agg cs, fun w hw => by
    unfold Oper.quietAt execOp
    simp only [ho, hx, Instr.loadAt, Instr.sureAddr, Sem.run_bind, Sem.run_pure, Result.andThen_ok, run_loadVar_row w g t ty cs (0, 0) d (hC w hw) hu hd hi]
    exact ⟨rfl, rfl⟩, hk⟩

theorem Blk.from {w : World} {g : Nat} {t : TypeId} {cs : Array Value} (h : Blk w g t cs) : ∀ w', (∃ p : UpFrom w, w' = p.w') → Blk w' g t cs := fun _ ⟨p, hp⟩ => hp ▸ h.up p.up

/-- The same at an operation with a guard that says yes. -/
theorem wpList_load_rowG {P : Program} {ops : Array Oper} {rest : List Oper} {o : Oper} {a : Act} {w : World} {Q : Exit → Act → World → Prop} (hw : Region.wanted o (yielded ops a.tmps) = true) (ty : TypeId) (x : Operand) (ho : o.op = .load ty x)
    (g : Nat) (hx : a.eval x = .pointer (some ⟨g, 0, none⟩)) (t : TypeId) (cs : Array Value) (fr : Nat × Nat) (d : TypeDesc) (hg : w.heap[g]? = some (.cells cs t fr))
    (hu : P.underlying ty = some d) (hd : (match d with | .struct _ | .array _ _ => true | _ => false) = true) (hi : (P.info? ty).map (·.size) = some cs.size)
    (h : wpList P ops Q rest (a.put o.dst (.agg cs)) w) : wpList P ops Q (o :: rest) a w :=
  wpList_step fun K hK => by
    rw [if_pos hw]
    exact wp_load_row ty x ho g hx t cs fr d hg hu hd hi (hK _ _ h)
end Go.Sp
namespace Go.Proofs.YtdlcmpbpdbpanaaDoor
open Go.RowKit Go.Sp
set_option maxHeartbeats 1000000
set_option maxRecDepth 20000

/-- The slice's length is within its capacity. -/
def Room (v : Value) : Prop := ∃ a n cap, v = .slice a n cap ∧ n ≤ cap ∧ cap ≤ 9223372036854775807 ∧ (a = none → cap = 0)

theorem ints_sub {w : World} {b off n cap lo hi c : Nat} {xs : List Int} (h : IntsAt w (.slice (some ⟨b, off, none⟩) n cap) xs) (h1 : lo ≤ hi) (h2 : hi ≤ n) : IntsAt w (.slice (some ⟨b, off + lo, none⟩) (hi - lo) c) ((xs.drop lo).take (hi - lo)) := by
  obtain ⟨hl, a', cap', hv, hcell⟩ := h
  injection hv with e1 e2 e3
  subst e1 e2 e3
  have hlen : ((xs.drop lo).take (hi - lo)).length = hi - lo := by simp; omega
  refine ⟨by omega, _, _, by rw [hlen], fun hne => ?_⟩
  have h3 : lo < hi := by
    refine Nat.lt_of_le_of_ne h1 fun e => hne ?_
    rw [e, Nat.sub_self, List.take_zero]
  obtain ⟨b', off', hb, hk⟩ := hcell (by rintro rfl; simp at h2; omega)
  injection hb with hb
  injection hb with hb1 hb2
  subst hb1 hb2
  refine ⟨b, off + lo, rfl, fun i hi' => ?_⟩
  rw [hlen] at hi'
  have := hk (lo + i) (by omega)
  rw [Nat.add_assoc, this]
  simp [hi', List.getElem?_drop]

theorem drop_split (xs : List Int) (f d : Nat) : xs.drop f = (xs.drop f).take d ++ xs.drop (f + d) := by
  rw [← List.drop_drop, List.take_append_drop]

/-- A slice of slices of integers. -/
def RowsAt (w : World) (v : Value) (rs : List (List Int)) : Prop :=
  rs.length ≤ 9223372036854775807 ∧ ∃ a cap, v = .slice a rs.length cap ∧ (rs ≠ [] → ∃ b off, a = some ⟨b, off, none⟩ ∧ ∀ i, i < rs.length → ∃ u, w.cell? ⟨b, off + i, none⟩ = some u ∧ IntsAt w u (rs.getD i []))

theorem RowsAt.up {w w' : World} {v : Value} {rs : List (List Int)} (h : RowsAt w v rs) (hU : Up w w') : RowsAt w' v rs := by
  obtain ⟨hl, a, cap, rfl, hc⟩ := h
  refine ⟨hl, a, cap, rfl, fun hne => ?_⟩
  obtain ⟨b, off, rfl, hcell⟩ := hc hne
  refine ⟨b, off, rfl, fun i hi => ?_⟩
  obtain ⟨u, hu, hI⟩ := hcell i hi
  exact ⟨u, by rw [hU.cell (cell_lt hu)]; exact hu, hI.up hU⟩

theorem rows_cell {w w' : World} {a : Option Addr} {n cap : Nat} {rs : List (List Int)} (h : RowsAt w (.slice a n cap) rs) (hU : Up w w') {i : Nat} (hi : i < rs.length) :
    ∃ b off u, a = some ⟨b, off, none⟩ ∧ w'.cell? ⟨b, off + i, none⟩ = some u ∧ IntsAt w' u (rs.getD i []) := by
  obtain ⟨_, a', cap', hv, hc⟩ := h
  injection hv with e1 e2 e3
  subst e1
  obtain ⟨b, off, rfl, hcell⟩ := hc (by rintro rfl; simp at hi)
  obtain ⟨u, hu, hI⟩ := hcell i hi
  exact ⟨b, off, u, rfl, cellUp hU hu, hI.up hU⟩

theorem rows_drop {rs : List (List Int)} {i : Nat} (hi : i < rs.length) : rs.drop i = rs.getD i [] :: rs.drop (i + 1) := by
  rw [List.drop_eq_getElem_cons hi]; simp [hi]
theorem rows_mem {rs : List (List Int)} {i : Nat} (hi : i < rs.length) : rs.getD i [] ∈ rs := by simp [hi]
end Go.Proofs.YtdlcmpbpdbpanaaDoor
namespace Go.Proofs.YtdlcmpbpdbpanaaDoor
open Go.RowKit Go.Sp

theorem sliced_ints {w : World} {v : Value} {xs : List Int} (h : IntsAt w v xs) (r : Room v) (lo hi : Nat) (h1 : lo ≤ hi) (h2 : hi ≤ xs.length) :
    ∃ a n cap, v = .slice a n cap ∧ n = xs.length ∧ n ≤ cap ∧ IntsAt w (sliced a lo hi cap 1) ((xs.drop lo).take (hi - lo)) := by
  obtain ⟨a, n, cap, rfl, hle, hmx, hnone⟩ := r
  obtain ⟨hl, a', cap', hv, hc⟩ := id h
  simp only [Value.slice.injEq] at hv
  obtain ⟨rfl, rfl, rfl⟩ := hv
  refine ⟨a, xs.length, cap, rfl, rfl, hle, ?_⟩
  have hlen : ((xs.drop lo).take (hi - lo)).length = hi - lo := by simp; omega
  by_cases hne : hi - lo = 0
  · have hnil : (xs.drop lo).take (hi - lo) = [] := List.length_eq_zero_iff.1 (by omega)
    rw [hnil]
    unfold sliced
    rw [hne]
    exact ⟨by simp, _, _, rfl, fun hx => absurd rfl hx⟩
  · obtain ⟨b, off, rfl, hcell⟩ := hc (by rintro rfl; simp at h2; omega)
    have := ints_sub (c := cap - lo) h h1 h2
    unfold sliced
    have hcap : cap ≠ lo := by omega
    simpa [hcap, Addr.add_lit] using this

theorem run_lo (a : Option Addr) (n cap k : Nat) (h : k ≤ n) (W : World) : (Instr.slice 44 (.slice a n cap) (some (.int .i64 k)) none none).run Tryd.prog W = .ok (sliced a k n cap 1) W := by
  rw [run_slice_l (P := Tryd.prog) W 44 a n cap (by kernel_rfl) .i64 k (by omega) (by omega)]
  simp [show ∀ W, (sizeOf (Tryd.prog.elem 44)).run Tryd.prog W = .ok 1 W from fun W => by kernel_rfl, Result.andThen]

theorem run_hi (a : Option Addr) (n cap k : Nat) (h : k ≤ cap) (W : World) : (Instr.slice 44 (.slice a n cap) none (some (.int .i64 k)) none).run Tryd.prog W = .ok (sliced a 0 k cap 1) W := by
  rw [run_slice_h (P := Tryd.prog) W 44 a n cap (by kernel_rfl) .i64 k (by omega) (by omega)]
  simp [show ∀ W, (sizeOf (Tryd.prog.elem 44)).run Tryd.prog W = .ok 1 W from fun W => by kernel_rfl, Result.andThen]

/-- v[:k] and v[k:]. -/
theorem sub_runs {w : World} {a : Option Addr} {n cap : Nat} {xs : List Int} (h : IntsAt w (.slice a n cap) xs) (r : Room (.slice a n cap)) (k : Nat) (hk : k ≤ n) :
    ∃ u v, (∀ W, (Instr.slice 44 (.slice a n cap) none (some (.int .i64 k)) none).run Tryd.prog W = .ok u W) ∧ (∀ W, (Instr.slice 44 (.slice a n cap) (some (.int .i64 k)) none none).run Tryd.prog W = .ok v W) ∧
      IntsAt w u (xs.take k) ∧ IntsAt w v (xs.drop k) := by
  have hn : n = xs.length := by
    obtain ⟨_, _, _, hv, _⟩ := h
    simp only [Value.slice.injEq] at hv
    exact hv.2.1
  obtain ⟨a1, n1, c1, hv1, _, hle, i1⟩ := sliced_ints h r 0 k (by omega) (by omega)
  obtain ⟨a2, n2, c2, hv2, _, _, i2⟩ := sliced_ints h r k n (by omega) (by omega)
  simp only [Value.slice.injEq] at hv1 hv2
  obtain ⟨rfl, rfl, rfl⟩ := hv1
  obtain ⟨rfl, -, rfl⟩ := hv2
  refine ⟨_, _, run_hi a n cap k (by omega), run_lo a n cap k hk, by simpa using i1, ?_⟩
  rw [List.take_of_length_le (by simp; omega)] at i2
  exact i2
end Go.Proofs.YtdlcmpbpdbpanaaDoor
namespace Go.Proofs.YtdlcmpbpdbpanaaDoor
open Go.RowKit Go.Sp
set_option maxHeartbeats 4000000
set_option maxRecDepth 20000

/-- The first error of a view and a signature. -/
def fltE (kv cv ver : Bool) : Int := if kv = true then (if cv = true then (if ver = true then 0 else 12) else 11) else 1

end Go.Proofs.YtdlcmpbpdbpanaaDoor
