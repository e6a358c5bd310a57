/- slices.IsSorted of integers in order. Logarithms: what is refused, the base 1, small groups; slices.Contains. -/
import Derived.Test.YtdlcmpbpdbpanaaGreatDoorMUnlinkExplains25
import Derived.Test.YtdlcmpbpdbpanaaGreatDoorMUnlinkExplains2
import Derived.Test.YtdlcmpbpdbpanaaGreatDoorMUnlinkExplains48
import Derived.Test.YtdlcmpbpdbpanaaGreatDoorMUnlinkExplains51
import Derived.BigQuiet
import Derived.IntWalk
namespace Go.Proofs.YtdlcmpbpdbpanaaGreatDoor
open Go.RowKit Go.Sp
set_option maxHeartbeats 1000000
set_option maxRecDepth 20000

theorem sorted_at {xs : List Int} (h : xs.Pairwise (· ≤ ·)) {k : Nat} (hk : k + 1 < xs.length) : xs.getD k 0 ≤ xs.getD (k + 1) 0 := by
  have := List.pairwise_iff_getElem.1 h k (k + 1) (by omega) hk (by omega)
  simpa [hk, show k < xs.length by omega] using this

end Go.Proofs.YtdlcmpbpdbpanaaGreatDoor
namespace Go.Proofs.YtdlcmpbpdbpanaaGreatDoor
open Go.RowKit Go.Sp
set_option maxHeartbeats 1000000
set_option maxRecDepth 20000

theorem Log_bad (P Q G b x c : Int) (w : World) (hP : -9223372036854775808 ≤ P) (hQ : Q ≤ 9223372036854775807) (hT : Tab w) (hc : chkI P Q G [b, x] = c) (hc0 : (c != 0) = true) :
    Calls Tryz.prog 90 #[grp P Q G, .int .i64 b, .int .i64 x] w fun e w' => e = .returned (.tuple #[.int .i64 0, .int .i64 c]) ∧ Up w w' := by
  have HT := hid hT
  have HA := hid hc
  clear hT hc
  go_enter Tryz.func90, Tryz.ntmps90
  go_wp2_with fail
  refine (gcheck_any P Q G _ [b, x] _ hP hQ (HT.out.up (((Up.refl w).alloc _).alloc _)) (ints_two (by go_simp) (by go_simp))).mono ?_
  rintro e w1 ⟨rfl, hU1⟩
  rw [HA.out]
  go_wp2
  go_ret2
  exact ⟨rfl, (((Up.refl w).alloc _).alloc _).trans hU1⟩

theorem Log_one (P Q G : Int) (w : World) (hT : Tab w) (hg : gvB P Q G = true) (hQ : Q ≤ 1048576) :
    Calls Tryz.prog 90 #[grp P Q G, .int .i64 1, .int .i64 1] w fun e w' => e = .returned (.tuple #[.int .i64 0, .int .i64 0]) ∧ Up w w' := by
  have HT := hid hT
  have g := gv_iff.1 hg
  have g1 := g.P61
  have g2 := g.P4
  have g3 := g.Q3
  have h1 : elB P Q 1 = true := el_one (by omega)
  have HA := hid (chkI_ok (xs := [1, 1]) hg (by simp [h1]))
  have d2 : decide (Q > 1048576) = false := by simp; omega
  have d3 : decide (1048576 < Q) = false := by simp; omega
  clear hT hg h1 g
  go_enter Tryz.func90, Tryz.ntmps90
  go_wp2_with fail
  refine (gcheck_any P Q G _ [1, 1] _ (by omega) (by omega) (HT.out.up (((Up.refl w).alloc _).alloc _)) (ints_two (by go_simp) (by go_simp))).mono ?_
  rintro e w1 ⟨rfl, hU1⟩
  have HG := hid ((box_reads rfl ((Up.refl _).alloc _)).up hU1)
  obtain ⟨c0, c1, c2⟩ := HG.out
  rw [HA.out]
  go_wp2
  go_ret2
  exact ⟨rfl, (((Up.refl w).alloc _).alloc _).trans hU1⟩

theorem Log_pow (P Q G b : Int) (n : Nat) (w : World) (hT : Tab w) (hg : gvB P Q G = true) (hP : P < 1048577) (hb : elB P Q b = true) (hb1 : b ≠ 1) (hn : n < Q.toNat) :
    Calls Tryz.prog 90 #[grp P Q G, .int .i64 b, .int .i64 (pw b n P)] w fun e w' => e = .returned (.tuple #[.int .i64 n, .int .i64 0]) ∧ Up w w' := by
  have g := gv_iff.1 hg
  have g2 := g.P4
  have g3 := g.Q3
  have g4 := g.QP
  have hq := prim_of g.pQ (by omega)
  exact Log_ok P Q G b (pw b n P) n w hT hg (by omega) hb hb1 (el_pw (by omega) (by omega) hb n) hn rfl fun m hm h => pw_inj (by omega) hq hb hb1 hm hn h

/-- In a small group each element has a logarithm. -/
theorem log_there {P Q G b x : Int} (hg : gvB P Q G = true) (hP : P < 1048576) (hb : elB P Q b = true) (hb1 : b ≠ 1) (hx : elB P Q x = true) : ∃ n : Nat, n < Q.toNat ∧ x = pw b n P := by
  have g := gv_iff.1 hg
  have g4 := g.QP
  have hm := mem_pows (prim_of g.pP hP) (prim_of g.pQ (by omega)) hb hb1 hx
  obtain ⟨n, hn, rfl⟩ := List.mem_map.1 hm
  exact ⟨n, List.mem_range.1 hn, rfl⟩

theorem found_has {P Q x : Int} (h2 : 2 ≤ P) : (found P Q (P - 1).toNat).contains x = elB P Q x := by
  rw [Bool.eq_iff_iff, List.contains_iff_mem, mem_found]
  constructor
  · exact fun h => h.2.2
  · intro h
    have := el_range h
    exact ⟨by omega, by omega, h⟩

theorem chkI_one {P Q G x : Int} (hg : gvB P Q G = true) : chkI P Q G [x] = if elB P Q x = true then 0 else 2 := by
  simp [chkI, hg]
end Go.Proofs.YtdlcmpbpdbpanaaGreatDoor
