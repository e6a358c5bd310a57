/- A group's numbers in the worlds of a drawn region. Parts of slices. -/
import Derived.Test.YtdlcmpbpdbpanaaGreatDoorMUnlinkExplains10
namespace Go.Proofs.YtdlcmpbpdbpanaaGreatDoor
open Go.RowKit Go.Sp

theorem cellF {w : World} {b o : Nat} {v : Value} (h : w.cell? ⟨b, o, none⟩ = some v) (p : UpFrom w) : p.w'.cell? ⟨b, o, none⟩ = some v := cellUp p.up h

theorem GrpAt.from {w : World} {b : Nat} {P Q G : Int} (h : GrpAt w b P Q G) : (∀ p : UpFrom w, p.w'.cell? ⟨b, 0, none⟩ = some (.int .i64 P)) ∧ (∀ p : UpFrom w, p.w'.cell? ⟨b, 1, none⟩ = some (.int .i64 Q)) ∧ ∀ p : UpFrom w, p.w'.cell? ⟨b, 2, none⟩ = some (.int .i64 G) :=
  ⟨fun p => cellF h.1 p, fun p => cellF h.2.1 p, fun p => cellF h.2.2 p⟩
end Go.Proofs.YtdlcmpbpdbpanaaGreatDoor
namespace Go.Proofs.YtdlcmpbpdbpanaaGreatDoor
open Go.RowKit Go.Sp
set_option maxHeartbeats 1000000
set_option maxRecDepth 20000

/-- The slice's length is within its capacity. -/
def Room (v : Value) : Prop := ∃ a n cap, v = .slice a n cap ∧ n ≤ cap ∧ cap ≤ 9223372036854775807 ∧ (a = none → cap = 0)

theorem ints_sub {w : World} {b off n cap lo hi c : Nat} {xs : List Int} (h : IntsAt w (.slice (some ⟨b, off, none⟩) n cap) xs) (h1 : lo ≤ hi) (h2 : hi ≤ n) : IntsAt w (.slice (some ⟨b, off + lo, none⟩) (hi - lo) c) ((xs.drop lo).take (hi - lo)) := by
  obtain ⟨hl, a', cap', hv, hcell⟩ := h
  injection hv with e1 e2 e3
  subst e1 e2 e3
  have hlen : ((xs.drop lo).take (hi - lo)).length = hi - lo := by simp; omega
  refine ⟨by omega, _, _, by rw [hlen], fun hne => ?_⟩
  have h3 : lo < hi := by
    refine Nat.lt_of_le_of_ne h1 fun e => hne ?_
    rw [e, Nat.sub_self, List.take_zero]
  obtain ⟨b', off', hb, hk⟩ := hcell (by rintro rfl; simp at h2; omega)
  injection hb with hb
  injection hb with hb1 hb2
  subst hb1 hb2
  refine ⟨b, off + lo, rfl, fun i hi' => ?_⟩
  rw [hlen] at hi'
  have := hk (lo + i) (by omega)
  rw [Nat.add_assoc, this]
  simp [hi', List.getElem?_drop]

theorem drop_split (xs : List Int) (f d : Nat) : xs.drop f = (xs.drop f).take d ++ xs.drop (f + d) := by
  rw [← List.drop_drop, List.take_append_drop]

/-- A slice of slices of integers. -/
def RowsAt (w : World) (v : Value) (rs : List (List Int)) : Prop :=
  rs.length ≤ 9223372036854775807 ∧ ∃ a cap, v = .slice a rs.length cap ∧ (rs ≠ [] → ∃ b off, a = some ⟨b, off, none⟩ ∧ ∀ i, i < rs.length → ∃ u, w.cell? ⟨b, off + i, none⟩ = some u ∧ IntsAt w u (rs.getD i []))

theorem RowsAt.up {w w' : World} {v : Value} {rs : List (List Int)} (h : RowsAt w v rs) (hU : Up w w') : RowsAt w' v rs := by
  obtain ⟨hl, a, cap, rfl, hc⟩ := h
  refine ⟨hl, a, cap, rfl, fun hne => ?_⟩
  obtain ⟨b, off, rfl, hcell⟩ := hc hne
  refine ⟨b, off, rfl, fun i hi => ?_⟩
  obtain ⟨u, hu, hI⟩ := hcell i hi
  exact ⟨u, by rw [hU.cell (cell_lt hu)]; exact hu, hI.up hU⟩

theorem rows_cell {w w' : World} {a : Option Addr} {n cap : Nat} {rs : List (List Int)} (h : RowsAt w (.slice a n cap) rs) (hU : Up w w') {i : Nat} (hi : i < rs.length) :
    ∃ b off u, a = some ⟨b, off, none⟩ ∧ w'.cell? ⟨b, off + i, none⟩ = some u ∧ IntsAt w' u (rs.getD i []) := by
  obtain ⟨_, a', cap', hv, hc⟩ := h
  injection hv with e1 e2 e3
  subst e1
  obtain ⟨b, off, rfl, hcell⟩ := hc (by rintro rfl; simp at hi)
  obtain ⟨u, hu, hI⟩ := hcell i hi
  exact ⟨b, off, u, rfl, cellUp hU hu, hI.up hU⟩

theorem rows_drop {rs : List (List Int)} {i : Nat} (hi : i < rs.length) : rs.drop i = rs.getD i [] :: rs.drop (i + 1) := by
  rw [List.drop_eq_getElem_cons hi]; simp [hi]
theorem rows_mem {rs : List (List Int)} {i : Nat} (hi : i < rs.length) : rs.getD i [] ∈ rs := by simp [hi]
end Go.Proofs.YtdlcmpbpdbpanaaGreatDoor
