/- The examples of layer 10. The examples of layer 15; the reference's bases and commitments. -/
import Derived.Test.YtdlcmpbpdbpanaaGreatDoorMUnlinkExplains8
import Derived.Test.YtdlcmpbpdbpanaaGreatDoorMUnlinkExplains9
import Derived.Test.YtdlcmpbpdbpanaaGreatDoorMUnlinkExplains24
import Derived.LoopN
import Derived.Deep.RegionWith
namespace Go.Proofs.YtdlcmpbpdbpanaaGreatDoor
open Go.RowKit Go.Sp Go.Sort
set_option maxHeartbeats 400000

theorem gv_small : gvB 23 11 4 = true := by decide +kernel

/-- A slice over a block that holds just its elements. -/
theorem ints_blk {w : World} {b cap n : Nat} {xs : List Int} {t : TypeId} {fr : Nat × Nat} (hb : w.heap[b]? = some (.cells (xs.map (Value.int .i64)).toArray t fr)) (hn : n = xs.length) (hl : xs.length ≤ 9223372036854775807) : IntsAt w (.slice (some ⟨b, 0, none⟩) n cap) xs := by
  subst hn
  exact ints_at hl fun i hi => by simp [World.cell?, hb, hi]

end Go.Proofs.YtdlcmpbpdbpanaaGreatDoor
namespace Go.Proofs.YtdlcmpbpdbpanaaGreatDoor
open Go.RowKit Go.Sp
set_option maxHeartbeats 2000000
set_option maxRecDepth 20000

theorem ints_four {w : World} {b cap : Nat} {x y z u : Int} (h : w.cell? ⟨b, 0, none⟩ = some (.int .i64 x)) (h1 : w.cell? ⟨b, 1, none⟩ = some (.int .i64 y)) (h2 : w.cell? ⟨b, 2, none⟩ = some (.int .i64 z)) (h3 : w.cell? ⟨b, 3, none⟩ = some (.int .i64 u)) : IntsAt w (.slice (some ⟨b, 0, none⟩) 4 cap) [x, y, z, u] :=
  ints_at (xs := [x, y, z, u]) (by simp) fun i hi => by
    have : i = 0 ∨ i = 1 ∨ i = 2 ∨ i = 3 := by simp at hi; omega
    rcases this with rfl | rfl | rfl | rfl
    · exact h
    · exact h1
    · exact h2
    · exact h3

theorem second_grp {w w1 : World} {o : Obj} {P Q G : Int} (hU : Up ((w.alloc o).alloc (.cells #[.int .i64 P, .int .i64 Q, .int .i64 G] 23)) w1) : GrpAt w1 (w.heap.size + 1) P Q G := by
  have h := box_reads (w := w.alloc o) rfl hU
  simpa using h

theorem rbValid_any (P Q G A B C : Int) (w : World) (hP : -9223372036854775808 ≤ P) (hQ : Q ≤ 9223372036854775807) :
    Calls Tryz.prog 133 #[bas P Q G A B C] w fun e w' => e = .returned (.bool (bvB P Q G A B C)) ∧ Up w w' := by
  have HB : Hid (bvB P Q G A B C = (gvB P Q G && (A != 1) && (B != 1) && (C != 1) && elB P Q A && elB P Q B && elB P Q C)) := hid (by
    simp only [bvB, gnB, List.all_cons, List.all_nil, Bool.and_true]
    cases gvB P Q G <;> cases (A != 1) <;> cases (B != 1) <;> cases (C != 1) <;> cases elB P Q A <;> cases elB P Q B <;> rfl)
  generalize bvB P Q G A B C = X at *
  go_enter Tryz.func133, Tryz.ntmps133
  go_wp2_with fail
  have HA := hid ((bas_reads (o := .cells #[.int .i64 P, .int .i64 Q, .int .i64 G, .int .i64 A, .int .i64 B, .int .i64 C] 25) rfl ((Up.refl (w.alloc _)).alloc (.cells #[.int .i64 P, .int .i64 Q, .int .i64 G] 23))))
  have HG := hid (second_grp (w := w) (o := .cells #[.int .i64 P, .int .i64 Q, .int .i64 G, .int .i64 A, .int .i64 B, .int .i64 C] 25) (P := P) (Q := Q) (G := G) (Up.refl _))
  refine (rValid_any P Q G _ hP hQ).mono ?_
  rintro e w1 ⟨rfl, hU1⟩
  have HA1 := hid (HA.out.up hU1)
  have HG1 := hid (HG.out.up hU1)
  have HU1 := hid ((((Up.refl w).alloc _).alloc _).trans hU1)
  clear hU1 HA HG
  obtain ⟨⟨c0, c1, c2⟩, c3, c4, c5⟩ := HA1.out
  obtain ⟨e0, e1, e2⟩ := HG1.out
  by_cases hg : gvB P Q G = true
  case neg =>
    have hg' : gvB P Q G = false := by simpa using hg
    have hX : X = false := by rw [HB.out, hg']; rfl
    subst hX
    rw [hg']
    clear hg hg'
    go_wp2
    go_ret
    exact ⟨rfl, HU1.out⟩
  have g := gv_iff.1 hg
  have g1 := g.P61
  have g2 := g.P4
  have g3 := g.Q3
  have HB1 : Hid (X = ((A != 1) && (B != 1) && (C != 1) && elB P Q A && elB P Q B && elB P Q C)) := hid (by rw [HB.out, hg]; rfl)
  rw [hg]
  clear hg g HB
  by_cases ha : A = 1
  case pos =>
    have d : (A != 1) = false := by simp [ha]
    have hX : X = false := by rw [HB1.out, d]; rfl
    subst hX
    clear ha
    go_wp2
    go_ret
    exact ⟨rfl, HU1.out⟩
  have da : (A != 1) = true := by simpa using ha
  by_cases hb : B = 1
  case pos =>
    have d : (B != 1) = false := by simp [hb]
    have hX : X = false := by rw [HB1.out, da, d]; rfl
    subst hX
    clear ha hb
    go_wp2
    go_ret
    exact ⟨rfl, HU1.out⟩
  have db : (B != 1) = true := by simpa using hb
  by_cases hc : C = 1
  case pos =>
    have d : (C != 1) = false := by simp [hc]
    have hX : X = false := by rw [HB1.out, da, db, d]; rfl
    subst hX
    clear ha hb hc
    go_wp2
    go_ret
    exact ⟨rfl, HU1.out⟩
  have dc : (C != 1) = true := by simpa using hc
  have HB2 : Hid (X = (elB P Q A && elB P Q B && elB P Q C)) := hid (by rw [HB1.out, da, db, dc]; rfl)
  clear ha hb hc HB1
  go_wp2_with fail
  refine (rMember_any P Q G A _ g1 (by omega) hQ).mono ?_
  rintro e w2 ⟨rfl, hU2⟩
  have HA2 := hid (HA1.out.up hU2)
  have HG2 := hid (HG1.out.up hU2)
  have HU2 := hid (HU1.out.trans hU2)
  clear hU2 c0 c1 c2 c3 c4 c5 e0 e1 e2 HA1 HG1
  obtain ⟨⟨c0, c1, c2⟩, c3, c4, c5⟩ := HA2.out
  obtain ⟨e0, e1, e2⟩ := HG2.out
  by_cases h1 : elB P Q A = true
  case neg =>
    have h1' : elB P Q A = false := by simpa using h1
    have hX : X = false := by rw [HB2.out, h1']; rfl
    subst hX
    rw [h1']
    clear h1 h1'
    go_wp2
    go_ret
    exact ⟨rfl, HU2.out⟩
  have HB3 : Hid (X = (elB P Q B && elB P Q C)) := hid (by rw [HB2.out, h1]; rfl)
  rw [h1]
  clear h1 HB2
  go_wp2_with fail
  refine (rMember_any P Q G B _ g1 (by omega) hQ).mono ?_
  rintro e w3 ⟨rfl, hU3⟩
  have HA3 := hid (HA2.out.up hU3)
  have HG3 := hid (HG2.out.up hU3)
  have HU3 := hid (HU2.out.trans hU3)
  clear hU3 c0 c1 c2 c3 c4 c5 e0 e1 e2 HA2 HG2
  obtain ⟨⟨c0, c1, c2⟩, c3, c4, c5⟩ := HA3.out
  obtain ⟨e0, e1, e2⟩ := HG3.out
  by_cases h2 : elB P Q B = true
  case neg =>
    have h2' : elB P Q B = false := by simpa using h2
    have hX : X = false := by rw [HB3.out, h2']; rfl
    subst hX
    rw [h2']
    clear h2 h2'
    go_wp2
    go_ret
    exact ⟨rfl, HU3.out⟩
  have HB4 : Hid (X = elB P Q C) := hid (by rw [HB3.out, h2]; rfl)
  rw [h2]
  clear h2 HB3
  go_wp2_with fail
  refine (rMember_any P Q G C _ g1 (by omega) hQ).mono ?_
  rintro e w4 ⟨rfl, hU4⟩
  rw [← HB4.out]
  go_wp2
  go_ret
  exact ⟨rfl, HU3.out.trans hU4⟩

end Go.Proofs.YtdlcmpbpdbpanaaGreatDoor
