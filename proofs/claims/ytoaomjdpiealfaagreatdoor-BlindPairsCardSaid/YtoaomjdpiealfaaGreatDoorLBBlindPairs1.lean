/- Each view is explained with each signature by exactly one pair of factors: specielaw23.BlindPairs returns true. For every input; the tables of packages math/bits, prime and digest as the program's text lays them. The closed facts of the row of specielaw23.BlindPairs, one by one: all at once they outgrow the memory. BlindPairs: the walk. -/
import Derived.Test.YtoaomjdpiealfaaGreatDoorMB27
import Derived.Test.YtoaomjdpiealfaaGreatDoorMB30
import Derived.Test.YtoaomjdpiealfaaGreatDoorRows
import Derived.Test.YtoaomjdpiealfaaGreatDoorMB8
import Derived.Deep.CutRange
import Derived.JoinedCond
import Derived.KernelRfl
import Derived.Lay
namespace Go.Proofs.YtoaomjdpiealfaaGreatDoor
open Go.RowKit Go.Sp
set_option maxHeartbeats 4000000
set_option maxRecDepth 20000

theorem pair_one {P Q G y r c s sc ss : Int} {v : Value} {m : List Int} {w : World} (hP : -9223372036854775808 ≤ P) (hQ : Q ≤ 9223372036854775807) (hT : Tab w) (hS : TabS w) (hv : SeqAt .u8 w v m) (hm : ∀ x ∈ m, 0 ≤ x ∧ x ≤ 255) (hq : Q ≤ 60) (hc : chkB P Q G y r c s = true) (hs : verS P Q G y m sc ss = true) :
    Calls Tryz.prog 14 #[grp P Q G, .int .i64 y, .agg #[.int .i64 r, .int .i64 c, .int .i64 s], v, .agg #[.int .i64 sc, .int .i64 ss]] w fun e w' => e = .returned (.tuple #[.int .i64 1, .int .i64 0]) ∧ Up w w' := by
  obtain ⟨al, be, K, H⟩ := joined_all hc hs
  have h := bliCount_any P Q G y r c s v m sc ss w hP hQ hT hS hv hm
  rw [H.given, show cntE 0 Q = 0 by rw [cntE, if_pos rfl, if_neg (by omega)]] at h
  exact h

/-- The boxes of BlindPairs. -/
structure BoxP (wS w : World) (o o1 o2 o3 p p1 p2 : Nat) (P Q G k0 k1 a0 a1 b0 b1 : Int) (v1 v2 : Value) (r0 c0 s0 r1 c1 s1 d0 t0 d1 t1 : Int) : Prop where
  up : Up wS w
  g : GrpAt wS o P Q G
  k : Blk wS o1 24 #[.int .i64 k0, .int .i64 k1]
  l : Blk wS o2 24 #[.int .i64 a0, .int .i64 a1]
  e : Blk wS o3 24 #[.int .i64 b0, .int .i64 b1]
  x : Blk w p 34 #[.int .i64 r0, .int .i64 c0, .int .i64 s0, .int .i64 r1, .int .i64 c1, .int .i64 s1]
  y : Blk w p1 37 #[.int .i64 d0, .int .i64 t0, .int .i64 d1, .int .i64 t1]
  z : Blk w p2 38 #[v1, v2]
  q : wS.heap.size ≤ p ∧ p < p1 ∧ p1 < p2
section
variable {wS w w' : World} {o o1 o2 o3 p p1 p2 : Nat} {P Q G k0 k1 a0 a1 b0 b1 : Int} {v1 v2 : Value} {r0 c0 s0 r1 c1 s1 d0 t0 d1 t1 : Int}
theorem BoxP.upp (h : BoxP wS w o o1 o2 o3 p p1 p2 P Q G k0 k1 a0 a1 b0 b1 v1 v2 r0 c0 s0 r1 c1 s1 d0 t0 d1 t1) (hU : Up w w') : BoxP wS w' o o1 o2 o3 p p1 p2 P Q G k0 k1 a0 a1 b0 b1 v1 v2 r0 c0 s0 r1 c1 s1 d0 t0 d1 t1 :=
  ⟨h.up.trans hU, h.g, h.k, h.l, h.e, h.x.up hU, h.y.up hU, h.z.up hU, h.q⟩
theorem BoxP.gg (h : BoxP wS w o o1 o2 o3 p p1 p2 P Q G k0 k1 a0 a1 b0 b1 v1 v2 r0 c0 s0 r1 c1 s1 d0 t0 d1 t1) : GrpAt w o P Q G := h.g.up h.up
theorem BoxP.kk (h : BoxP wS w o o1 o2 o3 p p1 p2 P Q G k0 k1 a0 a1 b0 b1 v1 v2 r0 c0 s0 r1 c1 s1 d0 t0 d1 t1) : Blk w o1 24 #[.int .i64 k0, .int .i64 k1] := h.k.up h.up
theorem BoxP.ll (h : BoxP wS w o o1 o2 o3 p p1 p2 P Q G k0 k1 a0 a1 b0 b1 v1 v2 r0 c0 s0 r1 c1 s1 d0 t0 d1 t1) : Blk w o2 24 #[.int .i64 a0, .int .i64 a1] := h.l.up h.up
theorem BoxP.ee (h : BoxP wS w o o1 o2 o3 p p1 p2 P Q G k0 k1 a0 a1 b0 b1 v1 v2 r0 c0 s0 r1 c1 s1 d0 t0 d1 t1) : Blk w o3 24 #[.int .i64 b0, .int .i64 b1] := h.e.up h.up
theorem BoxP.putx0 (h : BoxP wS w o o1 o2 o3 p p1 p2 P Q G k0 k1 a0 a1 b0 b1 v1 v2 r0 c0 s0 r1 c1 s1 d0 t0 d1 t1) (r c s : Int) : BoxP wS (((w.setCell ⟨p, 0, none⟩ (.int .i64 r)).setCell ⟨p, 1, none⟩ (.int .i64 c)).setCell ⟨p, 2, none⟩ (.int .i64 s)) o o1 o2 o3 p p1 p2 P Q G k0 k1 a0 a1 b0 b1 v1 v2 r c s r1 c1 s1 d0 t0 d1 t1 := by
  obtain ⟨h0, h1, h2⟩ := h.q
  exact ⟨((h.up.setCell (a := ⟨p, 0, none⟩) h0 _).setCell (a := ⟨p, 1, none⟩) h0 _).setCell (a := ⟨p, 2, none⟩) h0 _, h.g, h.k, h.l, h.e, ((h.x.wrote 0 _).wrote 1 _).wrote 2 _, ((h.y.apart (a := ⟨p, 0, none⟩) (show p1 ≠ p by omega) _).apart (a := ⟨p, 1, none⟩) (show p1 ≠ p by omega) _).apart (a := ⟨p, 2, none⟩) (show p1 ≠ p by omega) _, ((h.z.apart (a := ⟨p, 0, none⟩) (show p2 ≠ p by omega) _).apart (a := ⟨p, 1, none⟩) (show p2 ≠ p by omega) _).apart (a := ⟨p, 2, none⟩) (show p2 ≠ p by omega) _, h.q⟩
theorem BoxP.puty0 (h : BoxP wS w o o1 o2 o3 p p1 p2 P Q G k0 k1 a0 a1 b0 b1 v1 v2 r0 c0 s0 r1 c1 s1 d0 t0 d1 t1) (d t : Int) : BoxP wS ((w.setCell ⟨p1, 0, none⟩ (.int .i64 d)).setCell ⟨p1, 1, none⟩ (.int .i64 t)) o o1 o2 o3 p p1 p2 P Q G k0 k1 a0 a1 b0 b1 v1 v2 r0 c0 s0 r1 c1 s1 d t d1 t1 := by
  obtain ⟨h0, h1, h2⟩ := h.q
  exact ⟨(h.up.setCell (a := ⟨p1, 0, none⟩) (show wS.heap.size ≤ p1 by omega) _).setCell (a := ⟨p1, 1, none⟩) (show wS.heap.size ≤ p1 by omega) _, h.g, h.k, h.l, h.e, (h.x.apart (a := ⟨p1, 0, none⟩) (show p ≠ p1 by omega) _).apart (a := ⟨p1, 1, none⟩) (show p ≠ p1 by omega) _, (h.y.wrote 0 _).wrote 1 _, (h.z.apart (a := ⟨p1, 0, none⟩) (show p2 ≠ p1 by omega) _).apart (a := ⟨p1, 1, none⟩) (show p2 ≠ p1 by omega) _, h.q⟩
theorem BoxP.putx1 (h : BoxP wS w o o1 o2 o3 p p1 p2 P Q G k0 k1 a0 a1 b0 b1 v1 v2 r0 c0 s0 r1 c1 s1 d0 t0 d1 t1) (r c s : Int) : BoxP wS (((w.setCell ⟨p, 3, none⟩ (.int .i64 r)).setCell ⟨p, 4, none⟩ (.int .i64 c)).setCell ⟨p, 5, none⟩ (.int .i64 s)) o o1 o2 o3 p p1 p2 P Q G k0 k1 a0 a1 b0 b1 v1 v2 r0 c0 s0 r c s d0 t0 d1 t1 := by
  obtain ⟨h0, h1, h2⟩ := h.q
  exact ⟨((h.up.setCell (a := ⟨p, 3, none⟩) h0 _).setCell (a := ⟨p, 4, none⟩) h0 _).setCell (a := ⟨p, 5, none⟩) h0 _, h.g, h.k, h.l, h.e, ((h.x.wrote 3 _).wrote 4 _).wrote 5 _, ((h.y.apart (a := ⟨p, 3, none⟩) (show p1 ≠ p by omega) _).apart (a := ⟨p, 4, none⟩) (show p1 ≠ p by omega) _).apart (a := ⟨p, 5, none⟩) (show p1 ≠ p by omega) _, ((h.z.apart (a := ⟨p, 3, none⟩) (show p2 ≠ p by omega) _).apart (a := ⟨p, 4, none⟩) (show p2 ≠ p by omega) _).apart (a := ⟨p, 5, none⟩) (show p2 ≠ p by omega) _, h.q⟩
theorem BoxP.puty1 (h : BoxP wS w o o1 o2 o3 p p1 p2 P Q G k0 k1 a0 a1 b0 b1 v1 v2 r0 c0 s0 r1 c1 s1 d0 t0 d1 t1) (d t : Int) : BoxP wS ((w.setCell ⟨p1, 2, none⟩ (.int .i64 d)).setCell ⟨p1, 3, none⟩ (.int .i64 t)) o o1 o2 o3 p p1 p2 P Q G k0 k1 a0 a1 b0 b1 v1 v2 r0 c0 s0 r1 c1 s1 d0 t0 d t := by
  obtain ⟨h0, h1, h2⟩ := h.q
  exact ⟨(h.up.setCell (a := ⟨p1, 2, none⟩) (show wS.heap.size ≤ p1 by omega) _).setCell (a := ⟨p1, 3, none⟩) (show wS.heap.size ≤ p1 by omega) _, h.g, h.k, h.l, h.e, (h.x.apart (a := ⟨p1, 2, none⟩) (show p ≠ p1 by omega) _).apart (a := ⟨p1, 3, none⟩) (show p ≠ p1 by omega) _, (h.y.wrote 2 _).wrote 3 _, (h.z.apart (a := ⟨p1, 2, none⟩) (show p2 ≠ p1 by omega) _).apart (a := ⟨p1, 3, none⟩) (show p2 ≠ p1 by omega) _, h.q⟩
end

theorem two_int {a b : Int} {i : Nat} (h : i < 2) : ∃ x, (#[Value.int .i64 a, Value.int .i64 b])[i]? = some (.int .i64 x) ∧ (i = 0 → x = a) ∧ (i = 1 → x = b) := by
  have : i = 0 ∨ i = 1 := by omega
  rcases this with rfl | rfl
  · exact ⟨a, rfl, fun _ => rfl, fun h => by omega⟩
  · exact ⟨b, rfl, fun h => by omega, fun _ => rfl⟩
theorem two_msg {w : World} {va1 va2 : Option Addr} {n1 vc1 n2 vc2 : Nat} {m1 m2 : List Int} {i : Nat} (h : i < 2) (h1 : SeqAt .u8 w (.slice va1 n1 vc1) m1) (h2 : SeqAt .u8 w (.slice va2 n2 vc2) m2) (b1 : ∀ x ∈ m1, 0 ≤ x ∧ x ≤ 255) (b2 : ∀ x ∈ m2, 0 ≤ x ∧ x ≤ 255) (l1 : m1.length ≤ 1000) (l2 : m2.length ≤ 1000) :
    ∃ va n vc m, (#[Value.slice va1 n1 vc1, Value.slice va2 n2 vc2])[i]? = some (.slice va n vc) ∧ SeqAt .u8 w (.slice va n vc) m ∧ (∀ x ∈ m, 0 ≤ x ∧ x ≤ 255) ∧ m.length ≤ 1000 ∧ (i = 0 → m = m1) ∧ (i = 1 → m = m2) := by
  have : i = 0 ∨ i = 1 := by omega
  rcases this with rfl | rfl
  · exact ⟨va1, n1, vc1, m1, rfl, h1, b1, l1, fun _ => rfl, fun h => by omega⟩
  · exact ⟨va2, n2, vc2, m2, rfl, h2, b2, l2, fun h => by omega, fun _ => rfl⟩

theorem BlindPairs_walk (P Q G x k0 k1 a0 a1 b0 b1 : Int) (v1 v2 : Value) (m1 m2 : List Int) (w : World) (hP : -9223372036854775808 ≤ P) (hQ : Q ≤ 9223372036854775807) (hT : Tab w) (hS : TabS w) (hv1 : SeqAt .u8 w v1 m1) (hm1 : ∀ x ∈ m1, 0 ≤ x ∧ x ≤ 255) (hv2 : SeqAt .u8 w v2 m2) (hm2 : ∀ x ∈ m2, 0 ≤ x ∧ x ≤ 255) :
    Calls Tryz.prog 3 #[grp P Q G, .int .i64 x, .agg #[.int .i64 k0, .int .i64 k1], .agg #[.int .i64 a0, .int .i64 a1], .agg #[.int .i64 b0, .int .i64 b1], v1, v2] w fun e w' => e = .returned (.bool true) ∧ Up w w' := by
  have HT := hid hT
  have HS := hid hS
  have HV1 := hid hv1
  have HV2 := hid hv2
  have HM1 := hid hm1
  have HM2 := hid hm2
  obtain ⟨va1, vc1, rfl, _, _⟩ := hv1.shape
  obtain ⟨va2, vc2, rfl, _, _⟩ := hv2.shape
  obtain ⟨n1, hn1⟩ : ∃ n, m1.length = n := ⟨_, rfl⟩
  obtain ⟨n2, hn2⟩ : ∃ n, m2.length = n := ⟨_, rfl⟩
  have HN1 := hid hn1
  have HN2 := hid hn2
  rw [hn1] at HV1 ⊢
  rw [hn2] at HV2 ⊢
  obtain ⟨o, ho⟩ : ∃ o, w.heap.size = o := ⟨_, rfl⟩
  have HO := hid ho
  obtain ⟨o1, ho1⟩ : ∃ o1, o + 1 = o1 := ⟨_, rfl⟩
  have HO1 := hid ho1
  obtain ⟨o2, ho2⟩ : ∃ o2, o1 + 1 = o2 := ⟨_, rfl⟩
  have HO2 := hid ho2
  obtain ⟨o3, ho3⟩ : ∃ o3, o2 + 1 = o3 := ⟨_, rfl⟩
  have HO3 := hid ho3
  clear hT hS hv1 hm1 hv2 hm2 hn1 hn2 ho ho1 ho2 ho3
  go_enter Tryz.func3, Tryz.ntmps3
  go_wp2_with fail
  refine (awake23 _ (HT.out.up (((((Up.refl w).alloc _).alloc _).alloc _).alloc _)) (HS.out.up (((((Up.refl w).alloc _).alloc _).alloc _).alloc _))).mono ?_
  rintro e w1 ⟨rfl, hU1⟩
  have HA1 := hid (((nums_three (w := w) (t := 23) HO.out).up ((((Up.refl _).alloc _).alloc _).alloc _)).up hU1)
  have HK1 := hid (((Blk.new (g := o1) (t := 24) (cs := #[.int .i64 k0, .int .i64 k1]) (by have := HO.out; have := HO1.out; have := HO2.out; have := HO3.out; simp; omega) rfl).up (((Up.refl _).alloc _).alloc _)).up hU1)
  have HL1 := hid (((Blk.new (g := o2) (t := 24) (cs := #[.int .i64 a0, .int .i64 a1]) (by have := HO.out; have := HO1.out; have := HO2.out; have := HO3.out; simp; omega) rfl).up ((Up.refl _).alloc _)).up hU1)
  have HE1 := hid (((Blk.new (g := o3) (t := 24) (cs := #[.int .i64 b0, .int .i64 b1]) (by have := HO.out; have := HO1.out; have := HO2.out; have := HO3.out; simp; omega) rfl)).up hU1)
  have HU1 := hid ((((((Up.refl w).alloc _).alloc _).alloc _).alloc _).trans hU1)
  clear hU1
  rw [HO.out, HO1.out, HO2.out, HO3.out]
  obtain ⟨c0, c1, c2⟩ := HA1.out
  by_cases hln1 : n1 > 1000
  case pos =>
    have dn1 : decide ((n1 : Int) > 1000) = true := by simp; omega
    clear hln1
    go_wp2_with fail
    refine (awake23 _ (HT.out.up (HU1.out)) (HS.out.up (HU1.out))).mono ?_
    rintro e w2 ⟨rfl, hU2⟩
    have HA2 := hid (HA1.out.up hU2)
    have HK2 := hid (HK1.out.up hU2)
    have HL2 := hid (HL1.out.up hU2)
    have HE2 := hid (HE1.out.up hU2)
    have HU2 := hid (HU1.out.trans hU2)
    clear hU2 HA1 HK1 HL1 HE1 HU1 c0 c1 c2
    go_wp2
    go_ret
    exact ⟨rfl, HU2.out⟩
  have dn1 : decide ((n1 : Int) > 1000) = false := by simp; omega
  by_cases hln2 : n2 > 1000
  case pos =>
    have dn2 : decide ((n2 : Int) > 1000) = true := by simp; omega
    clear hln2
    go_wp2_with fail
    refine (awake23 _ (HT.out.up (HU1.out)) (HS.out.up (HU1.out))).mono ?_
    rintro e w2 ⟨rfl, hU2⟩
    have HA2 := hid (HA1.out.up hU2)
    have HK2 := hid (HK1.out.up hU2)
    have HL2 := hid (HL1.out.up hU2)
    have HE2 := hid (HE1.out.up hU2)
    have HU2 := hid (HU1.out.trans hU2)
    clear hU2 HA1 HK1 HL1 HE1 HU1 c0 c1 c2
    go_wp2
    go_ret
    exact ⟨rfl, HU2.out⟩
  have dn2 : decide ((n2 : Int) > 1000) = false := by simp; omega
  go_wp2_with fail
  refine (rValid_any P Q G _ hP hQ).mono ?_
  rintro e w2 ⟨rfl, hU2⟩
  have HA2 := hid (HA1.out.up hU2)
  have HK2 := hid (HK1.out.up hU2)
  have HL2 := hid (HL1.out.up hU2)
  have HE2 := hid (HE1.out.up hU2)
  have HU2 := hid (HU1.out.trans hU2)
  clear hU2 HA1 HK1 HL1 HE1 HU1 c0 c1 c2
  obtain ⟨c0, c1, c2⟩ := HA2.out
  by_cases h : gvB P Q G = true
  case neg =>
    have h' : gvB P Q G = false := by simpa using h
    rw [h']
    clear h h'
    go_wp2_with fail
    refine (awake23 _ (HT.out.up (HU2.out)) (HS.out.up (HU2.out))).mono ?_
    rintro e w3 ⟨rfl, hU3⟩
    have HA3 := hid (HA2.out.up hU3)
    have HK3 := hid (HK2.out.up hU3)
    have HL3 := hid (HL2.out.up hU3)
    have HE3 := hid (HE2.out.up hU3)
    have HU3 := hid (HU2.out.trans hU3)
    clear hU3 HA2 HK2 HL2 HE2 HU2 c0 c1 c2
    go_wp2
    go_ret
    exact ⟨rfl, HU3.out⟩
  have hg := h
  rw [h]
  clear h
  by_cases hq : Q > 60
  case pos =>
    have dq : decide (Q > 60) = true := by simpa using hq
    clear hq
    go_wp2_with fail
    refine (awake23 _ (HT.out.up (HU2.out)) (HS.out.up (HU2.out))).mono ?_
    rintro e w3 ⟨rfl, hU3⟩
    have HA3 := hid (HA2.out.up hU3)
    have HK3 := hid (HK2.out.up hU3)
    have HL3 := hid (HL2.out.up hU3)
    have HE3 := hid (HE2.out.up hU3)
    have HU3 := hid (HU2.out.trans hU3)
    clear hU3 HA2 HK2 HL2 HE2 HU2 c0 c1 c2
    go_wp2
    go_ret
    exact ⟨rfl, HU3.out⟩
  have dq : decide (Q > 60) = false := by simpa using hq
  go_wp2_with fail
  refine (r23Scalar_any P Q G x _).mono ?_
  rintro e w3 ⟨rfl, hU3⟩
  have HA3 := hid (HA2.out.up hU3)
  have HK3 := hid (HK2.out.up hU3)
  have HL3 := hid (HL2.out.up hU3)
  have HE3 := hid (HE2.out.up hU3)
  have HU3 := hid (HU2.out.trans hU3)
  clear hU3 HA2 HK2 HL2 HE2 HU2 c0 c1 c2
  obtain ⟨c0, c1, c2⟩ := HA3.out
  by_cases h : exB Q x = true
  case neg =>
    have h' : exB Q x = false := by simpa using h
    rw [h']
    clear h h'
    go_wp2_with fail
    refine (awake23 _ (HT.out.up (HU3.out)) (HS.out.up (HU3.out))).mono ?_
    rintro e w4 ⟨rfl, hU4⟩
    have HA4 := hid (HA3.out.up hU4)
    have HK4 := hid (HK3.out.up hU4)
    have HL4 := hid (HL3.out.up hU4)
    have HE4 := hid (HE3.out.up hU4)
    have HU4 := hid (HU3.out.trans hU4)
    clear hU4 HA3 HK3 HL3 HE3 HU3 c0 c1 c2
    go_wp2
    go_ret
    exact ⟨rfl, HU4.out⟩
  have hx := h
  rw [h]
  clear h
  have hMk := fun w' (hU : Up w w') => sigKey_any P Q G x w' hP hQ (HT.out.up hU)
  have HHon := hid (fun k al be m hk ha hb hl => honest_all (P := P) (Q := Q) (G := G) (x := x) (k := k) (al := al) (be := be) (m := m) hg hx hk ha hb hl)
  have hkey : errE (gvB P Q G) (exB Q x) = 0 := by rw [hg, hx]; rfl
  have hQ60 : Q ≤ 60 := by omega
  have HP := hid hP
  have HQ := hid hQ
  have HQ6 := hid hQ60
  have HL1 : Hid (m1.length ≤ 1000) := hid (by rw [HN1.out]; omega)
  have HL2 : Hid (m2.length ≤ 1000) := hid (by rw [HN2.out]; omega)
  obtain ⟨y, hy⟩ : ∃ y, pwi P G x = y := ⟨_, rfl⟩
  rw [hy] at hMk HHon
  rw [hkey, show orZ 0 y = y from rfl] at hMk
  have Mk := hid hMk
  clear hMk hg hx hkey hQ60 hP hQ hln1 hln2 hq hy
  go_wp2_with fail
  refine (Mk.out _ (HU3.out)).mono ?_
  rintro e w4 ⟨rfl, hU4⟩
  have HA4 := hid (HA3.out.up hU4)
  have HK4 := hid (HK3.out.up hU4)
  have HL4 := hid (HL3.out.up hU4)
  have HE4 := hid (HE3.out.up hU4)
  have HU4 := hid (HU3.out.trans hU4)
  clear hU4 HA3 HK3 HL3 HE3 HU3 c0 c1 c2
  obtain ⟨c0, c1, c2⟩ := HA4.out
  obtain ⟨p, hp⟩ : ∃ p, w4.heap.size = p := ⟨_, rfl⟩
  obtain ⟨p1, hp1⟩ : ∃ p1, p + 1 = p1 := ⟨_, rfl⟩
  obtain ⟨p2, hp2⟩ : ∃ p2, p1 + 1 = p2 := ⟨_, rfl⟩
  have hop : o3 < p := by rw [← hp]; exact HE4.out.lt
  have lo1 : o < o1 := by have := HO1.out; omega
  have lo2 : o1 < o2 := by have := HO2.out; omega
  have lo3 : o2 < o3 := by have := HO3.out; omega
  have lwo : w.heap.size ≤ o := by have := HO.out; omega
  go_wp2_with fail
  obtain ⟨w0, hw0⟩ : ∃ w0, ((w4.alloc (.cells #[.int .i64 0, .int .i64 0, .int .i64 0, .int .i64 0, .int .i64 0, .int .i64 0] 34)).alloc (.cells #[.int .i64 0, .int .i64 0, .int .i64 0, .int .i64 0] 37)).alloc (.cells #[.slice va1 n1 vc1, .slice va2 n2 vc2] 38) = w0 := ⟨_, rfl⟩
  rw [hw0]
  have hup : Up w4 w0 := by rw [← hw0]; exact (((Up.refl _).alloc _).alloc _).alloc _
  have HX0 : Hid (Blk w0 p 34 #[.int .i64 0, .int .i64 0, .int .i64 0, .int .i64 0, .int .i64 0, .int .i64 0]) := hid (by rw [← hw0]; exact ((Blk.new hp rfl).alloc _).alloc _)
  have HY0 : Hid (Blk w0 p1 37 #[.int .i64 0, .int .i64 0, .int .i64 0, .int .i64 0]) := hid (by rw [← hw0]; exact (Blk.new (by simp; omega) rfl).alloc _)
  have HZ0 : Hid (Blk w0 p2 38 #[.slice va1 n1 vc1, .slice va2 n2 vc2]) := hid (by rw [← hw0]; exact Blk.new (by simp; omega) rfl)
  have HAb := HA4
  have HKb := HK4
  have HLb := HL4
  have HEb := HE4
  have HUb := hid hup
  have HU0 := hid (HU4.out.trans hup)
  try rw [hp]
  try rw [show p + 1 = p1 from hp1]
  try rw [show p1 + 1 = p2 from hp2]
  clear hup hw0 HA4 HK4 HL4 HE4 HU4
  go_loopw [73] (fun vi wr => ∃ (i : Nat) (r0 c0 s0 r1 c1 s1 d0 t0 d1 t1 : Int), i ≤ 2 ∧ vi = .int .i64 i ∧ Hid (1 ≤ i → chkB P Q G y r0 c0 s0 = true ∧ verS P Q G y m1 d0 t0 = true) ∧ Hid (2 ≤ i → chkB P Q G y r1 c1 s1 = true ∧ verS P Q G y m2 d1 t1 = true) ∧ Hid (BoxP w4 wr o o1 o2 o3 p p1 p2 P Q G k0 k1 a0 a1 b0 b1 (.slice va1 n1 vc1) (.slice va2 n2 vc2) r0 c0 s0 r1 c1 s1 d0 t0 d1 t1) ∧ Hid (Up w wr)) (fun vi _ => 2 - (intOf vi).toNat)
  case atStart => exact ⟨0, 0, 0, 0, 0, 0, 0, 0, 0, 0, 0, by omega, rfl, hid (fun h => by omega), hid (fun h => by omega), hid ⟨HUb.out, HAb.out, HKb.out, HLb.out, HEb.out, HX0.out, HY0.out, HZ0.out, by omega⟩, HU0⟩
  case round =>
    clear HX0 HY0 HZ0 HAb HKb HLb HEb HUb HU0
    obtain ⟨i, r0, c0, s0, r1, c1, s1, d0, t0, d1, t1, hi, rfl, HI1, HI2, HB, HU⟩ := hrel
    by_cases hl : i < 2
    · have hz : (i : Int) < 2 := by omega
      obtain ⟨k, hki, hk0, hk1⟩ := two_int (a := k0) (b := k1) hl
      obtain ⟨al, hai, ha0, ha1⟩ := two_int (a := a0) (b := a1) hl
      obtain ⟨be, hbi, hb0, hb1⟩ := two_int (a := b0) (b := b1) hl
      obtain ⟨va, n, vc, m, hmi, hms, hmb, hml, hm0, hm1⟩ := two_msg hl HV1.out HV2.out HM1.out HM2.out HL1.out HL2.out
      have hki := hid hki
      have hai := hid hai
      have hbi := hid hbi
      have hmi := hid hmi
      have HMS := hid hms
      have HMB := hid hmb
      have HML := hid hml
      have HMe := hid (And.intro hm0 hm1)
      have N1 := hid (fun w' => r23Scalar_any P Q G k w')
      have N2 := hid (fun w' => r23Scalar_any P Q G al w')
      have N3 := hid (fun w' => r23Scalar_any P Q G be w')
      have HU0 := HU
      have HB0 := HB
      clear hk0 hk1 ha0 ha1 hb0 hb1 hm0 hm1 hms hmb hml HU HB
      go_wp2_with fail
      obtain ⟨c0, c1, c2⟩ := HB0.out.gg
      have qk : wr.cell? ⟨o1, i, none⟩ = some (.int .i64 k) := by rw [Blk.read HB0.out.kk i]; exact hki.out
      have qa : wr.cell? ⟨o2, i, none⟩ = some (.int .i64 al) := by rw [Blk.read HB0.out.ll i]; exact hai.out
      have qb : wr.cell? ⟨o3, i, none⟩ = some (.int .i64 be) := by rw [Blk.read HB0.out.ee i]; exact hbi.out
      by_cases h0 : exB Q k = true
      case neg =>
        have h' : exB Q k = false := by simpa using h0
        rw [h'] at N1
        clear h' h0
        have fc0 := cellF c0
        have fc1 := cellF c1
        have fc2 := cellF c2
        have fqk := cellF qk
        have fqa := cellF qa
        have fqb := cellF qb
        clear c0 c1 c2 qk qa qb
        go_wp2_with fail
        refine wp_region_up (by kernel_rfl) (by kernel_rfl) ?_
        repeat (go_big_quiet_step ((first
            | (go_at_call 8; (with_reducible (show Calls _ _ #[_, .int .i64 k] _ _)); exact Calls.up_of (N1.out _))
        )))
        refine wpQuiet_nil ?_
        rintro w1 ⟨⟨_, hU1⟩, rfl⟩
        try dsimp only
        have HB1 := hid (HB0.out.upp hU1)
        have HU1 := hid (HU0.out.trans hU1)
        clear hU1 HB0 HU0 fc0 fc1 fc2 fqk fqa fqb
        go_wp2
        go_ret
        exact ⟨rfl, HU1.out⟩
      rw [h0] at N1
      by_cases h1 : exB Q al = true
      case neg =>
        have h' : exB Q al = false := by simpa using h1
        rw [h'] at N2
        clear h' h1
        have fc0 := cellF c0
        have fc1 := cellF c1
        have fc2 := cellF c2
        have fqk := cellF qk
        have fqa := cellF qa
        have fqb := cellF qb
        clear c0 c1 c2 qk qa qb
        go_wp2_with fail
        refine wp_region_up (by kernel_rfl) (by kernel_rfl) ?_
        repeat (go_big_quiet_step ((first
            | (go_at_call 8; (with_reducible (show Calls _ _ #[_, .int .i64 k] _ _)); exact Calls.up_of (N1.out _))
            | (go_at_call 8; (with_reducible (show Calls _ _ #[_, .int .i64 al] _ _)); exact Calls.up_of (N2.out _))
        )))
        refine wpQuiet_nil ?_
        rintro w1 ⟨⟨_, hU1⟩, rfl⟩
        try dsimp only
        have HB1 := hid (HB0.out.upp hU1)
        have HU1 := hid (HU0.out.trans hU1)
        clear hU1 HB0 HU0 fc0 fc1 fc2 fqk fqa fqb
        go_wp2
        go_ret
        exact ⟨rfl, HU1.out⟩
      rw [h1] at N2
      by_cases h2 : exB Q be = true
      case neg =>
        have h' : exB Q be = false := by simpa using h2
        rw [h'] at N3
        clear h' h2
        have fc0 := cellF c0
        have fc1 := cellF c1
        have fc2 := cellF c2
        have fqk := cellF qk
        have fqa := cellF qa
        have fqb := cellF qb
        clear c0 c1 c2 qk qa qb
        go_wp2_with fail
        refine wp_region_up (by kernel_rfl) (by kernel_rfl) ?_
        repeat (go_big_quiet_step ((first
            | (go_at_call 8; (with_reducible (show Calls _ _ #[_, .int .i64 k] _ _)); exact Calls.up_of (N1.out _))
            | (go_at_call 8; (with_reducible (show Calls _ _ #[_, .int .i64 al] _ _)); exact Calls.up_of (N2.out _))
            | (go_at_call 8; (with_reducible (show Calls _ _ #[_, .int .i64 be] _ _)); exact Calls.up_of (N3.out _))
        )))
        refine wpQuiet_nil ?_
        rintro w1 ⟨⟨_, hU1⟩, rfl⟩
        try dsimp only
        have HB1 := hid (HB0.out.upp hU1)
        have HU1 := hid (HU0.out.trans hU1)
        clear hU1 HB0 HU0 fc0 fc1 fc2 fqk fqa fqb
        go_wp2
        go_ret
        exact ⟨rfl, HU1.out⟩
      rw [h2] at N3
      have fc0 := cellF c0
      have fc1 := cellF c1
      have fc2 := cellF c2
      have fqk := cellF qk
      have fqa := cellF qa
      have fqb := cellF qb
      clear c0 c1 c2 qk qa qb
      go_wp2_with fail
      refine wp_region_up (by kernel_rfl) (by kernel_rfl) ?_
      repeat (go_big_quiet_step ((first
          | (go_at_call 8; (with_reducible (show Calls _ _ #[_, .int .i64 k] _ _)); exact Calls.up_of (N1.out _))
          | (go_at_call 8; (with_reducible (show Calls _ _ #[_, .int .i64 al] _ _)); exact Calls.up_of (N2.out _))
          | (go_at_call 8; (with_reducible (show Calls _ _ #[_, .int .i64 be] _ _)); exact Calls.up_of (N3.out _))
      )))
      refine wpQuiet_nil ?_
      rintro w1 ⟨⟨_, hU1⟩, rfl⟩
      try dsimp only
      have HB1 := hid (HB0.out.upp hU1)
      have HU1 := hid (HU0.out.trans hU1)
      clear hU1 HB0 HU0 fc0 fc1 fc2 fqk fqa fqb
      obtain ⟨Kc, D, C, S, T, H⟩ := HHon.out k al be m h0 h1 h2 (by have := HML.out; omega)
      have hMo := fun w' (hU : Up w w') => bliOffer_any P Q G k w' HP.out HQ.out (HT.out.up hU)
      generalize pwi P G k = r at *
      rw [H.offer, show orZ 0 r = r from rfl] at hMo
      have hMb := fun w' (hU : Up w w') => bliBlind_any P Q G y r al be _ m w' HP.out HQ.out (HT.out.up hU) (HS.out.up hU) (HMS.out.up hU) HMB.out
      rw [H.blind, H.com, H.chal, H.blinded, show orZ 0 al = al from rfl, show orZ 0 be = be from rfl, show orZ 0 Kc = Kc from rfl, show orZ 0 D = D from rfl, show orZ 0 C = C from rfl] at hMb
      have hMa := fun w' (hU : Up w w') => bliAnswer_any P Q G x k C w' HP.out HQ.out (HT.out.up hU)
      rw [H.answer, H.ans, show orZ 0 S = S from rfl] at hMa
      have hMu := fun w' (hU : Up w w') => bliUnblind_any P Q G y r al be Kc D S w' HP.out HQ.out (HT.out.up hU)
      rw [H.unblind, H.last, show orZ 0 D = D from rfl, show orZ 0 T = T from rfl] at hMu
      have HHv := hid (And.intro H.view H.right)
      have Mo := hid hMo
      have Mb := hid hMb
      have Ma := hid hMa
      have Mu := hid hMu
      clear hMo hMb hMa hMu H h0 h1 h2 N1 N2 N3
      go_wp2_with fail
      obtain ⟨c0, c1, c2⟩ := HB1.out.gg
      have qk : w1.cell? ⟨o1, i, none⟩ = some (.int .i64 k) := by rw [Blk.read HB1.out.kk i]; exact hki.out
      have fc0 := cellF c0
      have fc1 := cellF c1
      have fc2 := cellF c2
      have fqk := cellF qk
      clear c0 c1 c2 qk
      go_wp2_with fail
      refine wp_region_up (by kernel_rfl) (by kernel_rfl) ?_
      repeat (go_big_quiet_step ((first
          | (go_at_call 10; exact Calls.up_of (Mo.out _ (HU1.out.trans (UpFrom.up _)))))))
      refine wpQuiet_nil ?_
      rintro w2 ⟨⟨_, hU2⟩, rfl⟩
      try dsimp only
      have HB2 := hid (HB1.out.upp hU2)
      have HU2 := hid (HU1.out.trans hU2)
      clear hU2 HB1 HU1 fc0 fc1 fc2 fqk
      go_wp2_with fail
      obtain ⟨c0, c1, c2⟩ := HB2.out.gg
      have qa : w2.cell? ⟨o2, i, none⟩ = some (.int .i64 al) := by rw [Blk.read HB2.out.ll i]; exact hai.out
      have qb : w2.cell? ⟨o3, i, none⟩ = some (.int .i64 be) := by rw [Blk.read HB2.out.ee i]; exact hbi.out
      have qm : w2.cell? ⟨p2, i, none⟩ = some (.slice va n vc) := by rw [Blk.read HB2.out.z i]; exact hmi.out
      have HK : Hid (∀ u, Up w2 u → u.cell? ⟨o, 0, none⟩ = some (.int .i64 P) ∧ u.cell? ⟨o, 1, none⟩ = some (.int .i64 Q) ∧ u.cell? ⟨o, 2, none⟩ = some (.int .i64 G) ∧ u.cell? ⟨o2, i, none⟩ = some (.int .i64 al) ∧ u.cell? ⟨o3, i, none⟩ = some (.int .i64 be) ∧ u.cell? ⟨p2, i, none⟩ = some (.slice va n vc)) := hid fun u hu => ⟨cellUp hu c0, cellUp hu c1, cellUp hu c2, cellUp hu qa, cellUp hu qb, cellUp hu qm⟩
      clear c0 c1 c2 qa qb qm
      go_cut [23, 24, 25] from 106 to 123 (fun va vb vc w' => ∃ g, va = .pointer (some ⟨g, 0, none⟩) ∧ vb = .int .i64 C ∧ vc = .int .i64 0 ∧ Hid (w2.heap.size ≤ g) ∧ Hid (Up w2 w') ∧ Hid (Blk w' g 40 #[.int .i64 al, .int .i64 be, .int .i64 Kc, .int .i64 D]))
      case first =>
        refine region_E (fun u => Up w2 u) 21 (by kernel_rfl) (Up.refl w2).drew fun hS => ?_
        generalize w2.drew = u0 at *
        refine anyE_takeA (i := 0) (v := ?_) 107 rfl rfl (by kernel_rfl) (by decide) (fun _ _ _ h => h) (by kernel_rfl) (by kernel_rfl) (.inl ⟨by rfl, fun u hu => ?_⟩) hS ?_
        rotate_left
        · (obtain ⟨z0, z1, z2, z3, z4, z5⟩ := HK.out _ hu; go_simp; first | done | with_reducible rfl)
        try simp only [Act.put, List.setIfInBounds_toArray, List.set_cons_zero, List.set_cons_succ]
        refine anyE_takeA (i := 1) (v := ?_) 108 rfl rfl (by kernel_rfl) (by decide) (fun _ _ _ h => h) (by kernel_rfl) (by kernel_rfl) (.inl ⟨by rfl, fun u hu => ?_⟩) hS ?_
        rotate_left
        · (go_simp; first | done | with_reducible rfl)
        try simp only [Act.put, List.setIfInBounds_toArray, List.set_cons_zero, List.set_cons_succ]
        refine anyE_takeA (i := 2) (v := ?_) 109 rfl rfl (by kernel_rfl) (by decide) (fun _ _ _ h => h) (by kernel_rfl) (by kernel_rfl) (.inl ⟨by rfl, fun u hu => ?_⟩) hS ?_
        rotate_left
        · (go_simp; first | done | with_reducible rfl)
        try simp only [Act.put, List.setIfInBounds_toArray, List.set_cons_zero, List.set_cons_succ]
        refine anyE_takeA (i := 3) (v := ?_) 110 rfl rfl (by kernel_rfl) (by decide) (fun _ _ _ h => h) (by kernel_rfl) (by kernel_rfl) (.inl ⟨by rfl, fun u hu => ?_⟩) hS ?_
        rotate_left
        · (go_simp; first | done | with_reducible rfl)
        try simp only [Act.put, List.setIfInBounds_toArray, List.set_cons_zero, List.set_cons_succ]
        refine anyE_takeA (i := 4) (v := ?_) 111 rfl rfl (by kernel_rfl) (by decide) (fun _ _ _ h => h) (by kernel_rfl) (by kernel_rfl) (.inl ⟨by rfl, fun u hu => ?_⟩) hS ?_
        rotate_left
        · (go_simp; first | done | with_reducible rfl)
        try simp only [Act.put, List.setIfInBounds_toArray, List.set_cons_zero, List.set_cons_succ]
        refine anyE_takeA (i := 5) (v := ?_) 112 rfl rfl (by kernel_rfl) (by decide) (fun _ _ _ h => h) (by kernel_rfl) (by kernel_rfl) (.inl ⟨by rfl, fun u hu => ?_⟩) hS ?_
        rotate_left
        · (obtain ⟨z0, z1, z2, z3, z4, z5⟩ := HK.out _ hu; go_simp; first | done | with_reducible rfl)
        try simp only [Act.put, List.setIfInBounds_toArray, List.set_cons_zero, List.set_cons_succ]
        refine anyE_takeA (i := 6) (v := ?_) 113 rfl rfl (by kernel_rfl) (by decide) (fun _ _ _ h => h) (by kernel_rfl) (by kernel_rfl) (.inl ⟨by rfl, fun u hu => ?_⟩) hS ?_
        rotate_left
        · (go_simp; first | done | with_reducible rfl)
        try simp only [Act.put, List.setIfInBounds_toArray, List.set_cons_zero, List.set_cons_succ]
        refine anyE_takeA (i := 7) (v := ?_) 114 rfl rfl (by kernel_rfl) (by decide) (fun _ _ _ h => h) (by kernel_rfl) (by kernel_rfl) (.inl ⟨by rfl, fun u hu => ?_⟩) hS ?_
        rotate_left
        · (go_simp; first | done | with_reducible rfl)
        try simp only [Act.put, List.setIfInBounds_toArray, List.set_cons_zero, List.set_cons_succ]
        refine anyE_takeA (i := 8) (v := ?_) 115 rfl rfl (by kernel_rfl) (by decide) (fun _ _ _ h => h) (by kernel_rfl) (by kernel_rfl) (.inl ⟨by rfl, fun u hu => ?_⟩) hS ?_
        rotate_left
        · (obtain ⟨z0, z1, z2, z3, z4, z5⟩ := HK.out _ hu; go_simp; first | done | with_reducible rfl)
        try simp only [Act.put, List.setIfInBounds_toArray, List.set_cons_zero, List.set_cons_succ]
        refine anyE_takeA (i := 9) (v := ?_) 116 rfl rfl (by kernel_rfl) (by decide) (fun _ _ _ h => h) (by kernel_rfl) (by kernel_rfl) (.inl ⟨by rfl, fun u hu => ?_⟩) hS ?_
        rotate_left
        · (go_simp; first | done | with_reducible rfl)
        try simp only [Act.put, List.setIfInBounds_toArray, List.set_cons_zero, List.set_cons_succ]
        refine anyE_takeA (i := 10) (v := ?_) 117 rfl rfl (by kernel_rfl) (by decide) (fun _ _ _ h => h) (by kernel_rfl) (by kernel_rfl) (.inl ⟨by rfl, fun u hu => ?_⟩) hS ?_
        rotate_left
        · (go_simp; first | done | with_reducible rfl)
        try simp only [Act.put, List.setIfInBounds_toArray, List.set_cons_zero, List.set_cons_succ]
        refine anyE_takeA (i := 11) (v := ?_) 118 rfl rfl (by kernel_rfl) (by decide) (fun _ _ _ h => h) (by kernel_rfl) (by kernel_rfl) (.inl ⟨by rfl, fun u hu => ?_⟩) hS ?_
        rotate_left
        · (obtain ⟨z0, z1, z2, z3, z4, z5⟩ := HK.out _ hu; go_simp; first | done | with_reducible rfl)
        try simp only [Act.put, List.setIfInBounds_toArray, List.set_cons_zero, List.set_cons_succ]
        refine anyE_two 12 17 (by kernel_rfl) ⟨_, rfl, rfl, fun K hK => ?_⟩ ⟨_, rfl, rfl, fun K hK => ?_⟩
        · go_simp
          refine (Mb.out _ (HU2.out.trans hS)).mono ?_
          rintro e u1 ⟨rfl, hup⟩
          try dsimp only
          have hS' := hS.trans hup
          refine hK.out _ _ (.inr hS') ?_
          clear hK hS hup
          have hS := hS'
          clear hS'
          try simp only [Act.put, List.setIfInBounds_toArray, List.set_cons_zero, List.set_cons_succ]
          refine anyE_takeA (i := 13) (v := ?_) 106 rfl rfl (by kernel_rfl) (by decide) (fun _ _ _ h => h) (by kernel_rfl) (by kernel_rfl) (.inl ⟨by rfl, fun u hu => ?_⟩) hS ?_
          rotate_left
          · (go_simp; first | done | with_reducible rfl)
          try simp only [Act.put, List.setIfInBounds_toArray, List.set_cons_zero, List.set_cons_succ]
          refine anyE_takeA (i := 14) (v := ?_) 120 rfl rfl (by kernel_rfl) (by decide) (fun _ _ _ h => h) (by kernel_rfl) (by kernel_rfl) (.inl ⟨by rfl, fun u hu => ?_⟩) hS ?_
          rotate_left
          · (go_simp; first | done | with_reducible rfl)
          try simp only [Act.put, List.setIfInBounds_toArray, List.set_cons_zero, List.set_cons_succ]
          refine anyE_takeA (i := 15) (v := ?_) 121 rfl rfl (by kernel_rfl) (by decide) (fun _ _ _ h => h) (by kernel_rfl) (by kernel_rfl) (.inl ⟨by rfl, fun u hu => ?_⟩) hS ?_
          rotate_left
          · (go_simp; first | done | with_reducible rfl)
          try simp only [Act.put, List.setIfInBounds_toArray, List.set_cons_zero, List.set_cons_succ]
          refine anyE_takeA (i := 16) (v := ?_) 122 rfl rfl (by kernel_rfl) (by decide) (fun _ _ _ h => h) (by kernel_rfl) (by kernel_rfl) (.inl ⟨by rfl, fun u hu => ?_⟩) hS ?_
          rotate_left
          · (go_simp; first | done | with_reducible rfl)
          try simp only [Act.put, List.setIfInBounds_toArray, List.set_cons_zero, List.set_cons_succ]
          refine anyE_oneG (i := 17) rfl (by kernel_rfl) (by rfl) (fun K hK => ?_)
          go_simp
          obtain ⟨g, hg⟩ : ∃ g, u1.heap.size = g := ⟨_, rfl⟩
          generalize hWz : World.alloc u1 _ = u2
          have hZ : Blk u2 g 40 #[.int .i64 0, .int .i64 0, .int .i64 0, .int .i64 0] := by rw [← hWz]; exact Blk.new hg rfl
          have hup : Up u1 u2 := by rw [← hWz]; exact (Up.refl _).alloc _
          have hgg : w2.heap.size ≤ g := by have := hS.size; omega
          try rw [hg]
          have hS' := hS.trans hup
          refine hK.out _ _ (.inr hS') ?_
          clear hK hWz hS hup hg
          have hS := hS'
          clear hS'
          try simp only [Act.put, List.setIfInBounds_toArray, List.set_cons_zero, List.set_cons_succ]
          refine anyE_oneG (i := 18) rfl (by kernel_rfl) (by rfl) (fun K hK => ?_)
          refine op_store_row 40 _ _ rfl rfl g #[.int .i64 al, .int .i64 be, .int .i64 Kc, .int .i64 D] rfl rfl 40 #[.int .i64 0, .int .i64 0, .int .i64 0, .int .i64 0] hZ (by kernel_rfl) rfl (by first | kernel_rfl | simp [Value.oneCell']) ?_
          have hZ := hZ.row #[.int .i64 al, .int .i64 be, .int .i64 Kc, .int .i64 D]
          have hS' := hS.setRow hgg #[.int .i64 al, .int .i64 be, .int .i64 Kc, .int .i64 D]
          refine hK.out _ _ (.inr hS') ?_
          clear hK hS
          have hS := hS'
          clear hS'
          generalize World.setRow _ g _ = u3 at *
          try simp only [Act.put, List.setIfInBounds_toArray, List.set_cons_zero, List.set_cons_succ]
          refine anyE_takeA (i := 19) (v := ?_) 24 rfl rfl (by kernel_rfl) (by decide) (fun _ _ _ h => h) (by kernel_rfl) (by kernel_rfl) (.inl ⟨by rfl, fun u hu => ?_⟩) hS ?_
          rotate_left
          · (go_simp; first | done | with_reducible rfl)
          try simp only [Act.put, List.setIfInBounds_toArray, List.set_cons_zero, List.set_cons_succ]
          refine anyE_takeA (i := 20) (v := ?_) 25 rfl rfl (by kernel_rfl) (by decide) (fun _ _ _ h => h) (by kernel_rfl) (by kernel_rfl) (.inl ⟨by rfl, fun u hu => ?_⟩) hS ?_
          rotate_left
          · (go_simp; first | done | with_reducible rfl)
          try simp only [Act.put, List.setIfInBounds_toArray, List.set_cons_zero, List.set_cons_succ]
          refine anyE_done (by kernel_rfl) ?_ _
          go_wp2_with fail
          go_meet
          exact ⟨g, rfl, rfl, rfl, hid hgg, hid hS, hid hZ⟩
        · go_simp
          obtain ⟨g, hg⟩ : ∃ g, u0.heap.size = g := ⟨_, rfl⟩
          generalize hWz : World.alloc u0 _ = u1
          have hZ : Blk u1 g 40 #[.int .i64 0, .int .i64 0, .int .i64 0, .int .i64 0] := by rw [← hWz]; exact Blk.new hg rfl
          have hup : Up u0 u1 := by rw [← hWz]; exact (Up.refl _).alloc _
          have hgg : w2.heap.size ≤ g := by have := hS.size; omega
          try rw [hg]
          have hS' := hS.trans hup
          refine hK.out _ _ (.inr hS') ?_
          clear hK hWz hS hup hg
          have hS := hS'
          clear hS'
          try simp only [Act.put, List.setIfInBounds_toArray, List.set_cons_zero, List.set_cons_succ]
          refine anyE_oneG (i := 12) rfl (by kernel_rfl) (by rfl) (fun K hK => ?_)
          go_simp
          refine (Mb.out _ (HU2.out.trans hS)).mono ?_
          rintro e u2 ⟨rfl, hup⟩
          try dsimp only
          have hS' := hS.trans hup
          refine hK.out _ _ (.inr hS') ?_
          have hZ := hZ.up hup
          clear hK hS hup
          have hS := hS'
          clear hS'
          try simp only [Act.put, List.setIfInBounds_toArray, List.set_cons_zero, List.set_cons_succ]
          refine anyE_takeA (i := 13) (v := ?_) 106 rfl rfl (by kernel_rfl) (by decide) (fun _ _ _ h => h) (by kernel_rfl) (by kernel_rfl) (.inl ⟨by rfl, fun u hu => ?_⟩) hS ?_
          rotate_left
          · (go_simp; first | done | with_reducible rfl)
          try simp only [Act.put, List.setIfInBounds_toArray, List.set_cons_zero, List.set_cons_succ]
          refine anyE_takeA (i := 14) (v := ?_) 120 rfl rfl (by kernel_rfl) (by decide) (fun _ _ _ h => h) (by kernel_rfl) (by kernel_rfl) (.inl ⟨by rfl, fun u hu => ?_⟩) hS ?_
          rotate_left
          · (go_simp; first | done | with_reducible rfl)
          try simp only [Act.put, List.setIfInBounds_toArray, List.set_cons_zero, List.set_cons_succ]
          refine anyE_takeA (i := 15) (v := ?_) 121 rfl rfl (by kernel_rfl) (by decide) (fun _ _ _ h => h) (by kernel_rfl) (by kernel_rfl) (.inl ⟨by rfl, fun u hu => ?_⟩) hS ?_
          rotate_left
          · (go_simp; first | done | with_reducible rfl)
          try simp only [Act.put, List.setIfInBounds_toArray, List.set_cons_zero, List.set_cons_succ]
          refine anyE_takeA (i := 16) (v := ?_) 122 rfl rfl (by kernel_rfl) (by decide) (fun _ _ _ h => h) (by kernel_rfl) (by kernel_rfl) (.inl ⟨by rfl, fun u hu => ?_⟩) hS ?_
          rotate_left
          · (go_simp; first | done | with_reducible rfl)
          try simp only [Act.put, List.setIfInBounds_toArray, List.set_cons_zero, List.set_cons_succ]
          refine anyE_oneG (i := 18) rfl (by kernel_rfl) (by rfl) (fun K hK => ?_)
          refine op_store_row 40 _ _ rfl rfl g #[.int .i64 al, .int .i64 be, .int .i64 Kc, .int .i64 D] rfl rfl 40 #[.int .i64 0, .int .i64 0, .int .i64 0, .int .i64 0] hZ (by kernel_rfl) rfl (by first | kernel_rfl | simp [Value.oneCell']) ?_
          have hZ := hZ.row #[.int .i64 al, .int .i64 be, .int .i64 Kc, .int .i64 D]
          have hS' := hS.setRow hgg #[.int .i64 al, .int .i64 be, .int .i64 Kc, .int .i64 D]
          refine hK.out _ _ (.inr hS') ?_
          clear hK hS
          have hS := hS'
          clear hS'
          generalize World.setRow _ g _ = u3 at *
          try simp only [Act.put, List.setIfInBounds_toArray, List.set_cons_zero, List.set_cons_succ]
          refine anyE_takeA (i := 19) (v := ?_) 24 rfl rfl (by kernel_rfl) (by decide) (fun _ _ _ h => h) (by kernel_rfl) (by kernel_rfl) (.inl ⟨by rfl, fun u hu => ?_⟩) hS ?_
          rotate_left
          · (go_simp; first | done | with_reducible rfl)
          try simp only [Act.put, List.setIfInBounds_toArray, List.set_cons_zero, List.set_cons_succ]
          refine anyE_takeA (i := 20) (v := ?_) 25 rfl rfl (by kernel_rfl) (by decide) (fun _ _ _ h => h) (by kernel_rfl) (by kernel_rfl) (.inl ⟨by rfl, fun u hu => ?_⟩) hS ?_
          rotate_left
          · (go_simp; first | done | with_reducible rfl)
          try simp only [Act.put, List.setIfInBounds_toArray, List.set_cons_zero, List.set_cons_succ]
          refine anyE_done (by kernel_rfl) ?_ _
          go_wp2_with fail
          go_meet
          exact ⟨g, rfl, rfl, rfl, hid hgg, hid hS, hid hZ⟩
      case rest =>
        rename World => w3
        obtain ⟨g, rfl, rfl, rfl, HGl, HUc, HZ3⟩ := hcut
        have HU3 := hid (HU2.out.trans HUc.out)
        have HB3 := hid (HB2.out.upp HUc.out)
        clear HUc HU2 HB2
        go_wp2_with fail
        obtain ⟨c0, c1, c2⟩ := HB3.out.gg
        have qk : w3.cell? ⟨o1, i, none⟩ = some (.int .i64 k) := by rw [Blk.read HB3.out.kk i]; exact hki.out
        have fc0 := cellF c0
        have fc1 := cellF c1
        have fc2 := cellF c2
        have fqk := cellF qk
        clear c0 c1 c2 qk
        go_wp2_with fail
        refine wp_region_up (by kernel_rfl) (by kernel_rfl) ?_
        repeat (go_big_quiet_step ((first
            | (go_at_call 12; exact Calls.up_of (Ma.out _ (HU3.out.trans (UpFrom.up _)))))))
        refine wpQuiet_nil ?_
        rintro w4 ⟨⟨_, hU4⟩, rfl⟩
        try dsimp only
        have HB4 := hid (HB3.out.upp hU4)
        have HZ4 := hid (HZ3.out.up hU4)
        have HU4 := hid (HU3.out.trans hU4)
        clear hU4 HB3 HZ3 HU3 fc0 fc1 fc2 fqk
        have z0 := HZ4.out.val (i := 0) rfl
        have z1 := HZ4.out.val (i := 1) rfl
        have z2 := HZ4.out.val (i := 2) rfl
        have z3 := HZ4.out.val (i := 3) rfl
        obtain ⟨c0, c1, c2⟩ := HB4.out.gg
        have z0 := HZ4.out.val (i := 0) rfl
        have z1 := HZ4.out.val (i := 1) rfl
        have z2 := HZ4.out.val (i := 2) rfl
        have z3 := HZ4.out.val (i := 3) rfl
        go_wp2_with fail
        refine (Mu.out _ (HU4.out)).mono ?_
        rintro e w5 ⟨rfl, hU5⟩
        have HB5 := hid (HB4.out.upp hU5)
        have HZ5 := hid (HZ4.out.up hU5)
        have HU5 := hid (HU4.out.trans hU5)
        clear hU5 HB4 HZ4 HU4 c0 c1 c2 z0 z1 z2 z3
        have z0 := HZ5.out.val (i := 0) rfl
        have z1 := HZ5.out.val (i := 1) rfl
        have z2 := HZ5.out.val (i := 2) rfl
        have z3 := HZ5.out.val (i := 3) rfl
        obtain ⟨os, hos⟩ : ∃ os, w5.heap.size = os := ⟨_, rfl⟩
        go_wp2_with fail
        obtain ⟨w6, hw6⟩ : ∃ w6, w5.alloc (.cells #[.int .i64 D, .int .i64 T] 36) = w6 := ⟨_, rfl⟩
        rw [hw6]
        have hup6 : Up w5 w6 := by rw [← hw6]; exact (Up.refl w5).alloc _
        have HG6 : Hid (Blk w6 os 36 #[.int .i64 D, .int .i64 T]) := hid (by rw [← hw6]; exact Blk.new hos rfl)
        have HB6 := hid (HB5.out.upp hup6)
        have HU6 := hid (HU5.out.trans hup6)
        have hpo : p < os ∧ p1 < os ∧ p2 < os := by rw [← hos]; exact ⟨HB5.out.x.lt, HB5.out.y.lt, HB5.out.z.lt⟩
        clear hup6 hw6 hos HB5 HZ5 HU5 z0 z1 z2 z3
        have hi01 : i = 0 ∨ i = 1 := by omega
        rcases hi01 with rfl | rfl
        · refine region_E (fun u => Blk u os 36 #[.int .i64 D, .int .i64 T]) 10 (by kernel_rfl) (HG6.out.up (Up.refl w6).drew) fun hS => ?_
          have hB0 := HB6.out.upp (Up.refl w6).drew
          have hU0 := HU6.out.drew
          clear HB6 HU6 HG6
          generalize w6.drew = u0 at *
          refine anyE_take (i := 0) (v := ?_) 154 rfl rfl (by kernel_rfl) (by kernel_rfl) (by decide) (fun _ _ _ h => h) (by kernel_rfl) (by kernel_rfl) (.inl ⟨by rfl, fun u hu => ?_⟩) hS ?_
          rotate_left
          · (go_simp; first | done | with_reducible rfl)
          try simp only [Act.put, List.setIfInBounds_toArray, List.set_cons_zero, List.set_cons_succ]
          refine anyE_take (i := 1) (v := ?_) 155 rfl rfl (by kernel_rfl) (by kernel_rfl) (by decide) (fun _ _ _ h => h) (by kernel_rfl) (by kernel_rfl) (.inl ⟨by rfl, fun u hu => ?_⟩) hS ?_
          rotate_left
          · (go_simp; first | done | with_reducible rfl)
          try simp only [Act.put, List.setIfInBounds_toArray, List.set_cons_zero, List.set_cons_succ]
          refine anyE_take (i := 2) (v := ?_) 156 rfl rfl (by kernel_rfl) (by kernel_rfl) (by decide) (fun _ _ _ h => h) (by kernel_rfl) (by kernel_rfl) (.inl ⟨by rfl, fun u hu => ?_⟩) hS ?_
          rotate_left
          · (go_simp; first | done | with_reducible rfl)
          try simp only [Act.put, List.setIfInBounds_toArray, List.set_cons_zero, List.set_cons_succ]
          refine anyE_take (i := 3) (v := ?_) 157 rfl rfl (by kernel_rfl) (by kernel_rfl) (by decide) (fun _ _ _ h => h) (by kernel_rfl) (by kernel_rfl) (.inl ⟨by rfl, fun u hu => ?_⟩) hS ?_
          rotate_left
          · (go_simp; first | done | with_reducible rfl)
          try simp only [Act.put, List.setIfInBounds_toArray, List.set_cons_zero, List.set_cons_succ]
          refine anyE_take (i := 4) (v := ?_) 158 rfl rfl (by kernel_rfl) (by kernel_rfl) (by decide) (fun _ _ _ h => h) (by kernel_rfl) (by kernel_rfl) (.inl ⟨by rfl, fun u hu => ?_⟩) hS ?_
          rotate_left
          · (go_simp; first | done | with_reducible rfl)
          try simp only [Act.put, List.setIfInBounds_toArray, List.set_cons_zero, List.set_cons_succ]
          refine anyE_take (i := 5) (v := ?_) 159 rfl rfl (by kernel_rfl) (by kernel_rfl) (by decide) (fun _ _ _ h => h) (by kernel_rfl) (by kernel_rfl) (.inl ⟨by rfl, fun u hu => ?_⟩) hS ?_
          rotate_left
          · (go_simp; first | done | with_reducible rfl)
          try simp only [Act.put, List.setIfInBounds_toArray, List.set_cons_zero, List.set_cons_succ]
          refine anyE_take (i := 6) (v := ?_) 160 rfl rfl (by kernel_rfl) (by kernel_rfl) (by decide) (fun _ _ _ h => h) (by kernel_rfl) (by kernel_rfl) (.inl ⟨by rfl, fun u hu => ?_⟩) hS ?_
          rotate_left
          · (have z0 := hu.val (i := 0) rfl; have z1 := hu.val (i := 1) rfl; go_simp; first | done | with_reducible rfl)
          try simp only [Act.put, List.setIfInBounds_toArray, List.set_cons_zero, List.set_cons_succ]
          refine anyE_take (i := 7) (v := ?_) 161 rfl rfl (by kernel_rfl) (by kernel_rfl) (by decide) (fun _ _ _ h => h) (by kernel_rfl) (by kernel_rfl) (.inl ⟨by rfl, fun u hu => ?_⟩) hS ?_
          rotate_left
          · (go_simp; first | done | with_reducible rfl)
          try simp only [Act.put, List.setIfInBounds_toArray, List.set_cons_zero, List.set_cons_succ]
          have f0 := hB0.x.val (i := 0) rfl
          have f1 := hB0.x.val (i := 1) rfl
          have f2 := hB0.x.val (i := 2) rfl
          have g0 := hB0.x.thawed 0
          have g1 := hB0.x.thawed 1
          have g2 := hB0.x.thawed 2
          refine anyE_oneG (i := 8) rfl (by kernel_rfl) (by rfl) (fun K hK => ?_)
          go_simp
          have hS' := ((hS.apart (a := ⟨p, 0, none⟩) (show os ≠ p by omega) (.int .i64 r)).apart (a := ⟨p, 1, none⟩) (show os ≠ p by omega) (.int .i64 C)).apart (a := ⟨p, 2, none⟩) (show os ≠ p by omega) (.int .i64 S)
          have hB1 := hB0.putx0 r C S
          have hU1 := ((hU0.setCell (a := ⟨p, 0, none⟩) (show w.heap.size ≤ p by omega) (.int .i64 r)).setCell (a := ⟨p, 1, none⟩) (show w.heap.size ≤ p by omega) (.int .i64 C)).setCell (a := ⟨p, 2, none⟩) (show w.heap.size ≤ p by omega) (.int .i64 S)
          refine hK.out _ _ (.inr hS') ?_
          clear hK hS hB0 hU0 f0 f1 f2 g0 g1 g2
          have hS := hS'
          clear hS'
          generalize World.setCell _ ⟨p, 2, none⟩ _ = u1 at *
          try simp only [Act.put, List.setIfInBounds_toArray, List.set_cons_zero, List.set_cons_succ]
          refine anyE_take (i := 9) (v := ?_) 162 rfl rfl (by kernel_rfl) (by kernel_rfl) (by decide) (fun _ _ _ h => h) (by kernel_rfl) (by kernel_rfl) (.inl ⟨by rfl, fun u hu => ?_⟩) hS ?_
          rotate_left
          · (go_simp; first | done | with_reducible rfl)
          try simp only [Act.put, List.setIfInBounds_toArray, List.set_cons_zero, List.set_cons_succ]
          have f0 := hB1.y.val (i := 0) rfl
          have f1 := hB1.y.val (i := 1) rfl
          have g0 := hB1.y.thawed 0
          have g1 := hB1.y.thawed 1
          refine anyE_oneG (i := 10) rfl (by kernel_rfl) (by rfl) (fun K hK => ?_)
          go_simp
          have HB2 := hid (hB1.puty0 D T)
          have HU2 := hid ((hU1.setCell (a := ⟨p1, 0, none⟩) (show w.heap.size ≤ p1 by omega) (.int .i64 D)).setCell (a := ⟨p1, 1, none⟩) (show w.heap.size ≤ p1 by omega) (.int .i64 T))
          refine hK.out _ _ (.inl rfl) (anyE_done (by kernel_rfl) ?_ _)
          clear hK hS hB1 hU1 f0 f1 g0 g1
          generalize World.setCell _ ⟨p1, 1, none⟩ _ = u2 at *
          go_wp2_with fail
          have HN1 := hid (fun (_ : 1 ≤ 1) => And.intro HHv.out.1 ((HMe.out.1 rfl) ▸ HHv.out.2))
          go_roundw
          case rel => exact ⟨1, r, C, S, r1, c1, s1, D, T, d1, t1, by omega, by go_num, HN1, hid (fun h => by omega), HB2, HU2⟩
          case measure => simp [intOf]
        · refine region_E (fun u => Blk u os 36 #[.int .i64 D, .int .i64 T]) 10 (by kernel_rfl) (HG6.out.up (Up.refl w6).drew) fun hS => ?_
          have hB0 := HB6.out.upp (Up.refl w6).drew
          have hU0 := HU6.out.drew
          clear HB6 HU6 HG6
          generalize w6.drew = u0 at *
          refine anyE_take (i := 0) (v := ?_) 154 rfl rfl (by kernel_rfl) (by kernel_rfl) (by decide) (fun _ _ _ h => h) (by kernel_rfl) (by kernel_rfl) (.inl ⟨by rfl, fun u hu => ?_⟩) hS ?_
          rotate_left
          · (go_simp; first | done | with_reducible rfl)
          try simp only [Act.put, List.setIfInBounds_toArray, List.set_cons_zero, List.set_cons_succ]
          refine anyE_take (i := 1) (v := ?_) 155 rfl rfl (by kernel_rfl) (by kernel_rfl) (by decide) (fun _ _ _ h => h) (by kernel_rfl) (by kernel_rfl) (.inl ⟨by rfl, fun u hu => ?_⟩) hS ?_
          rotate_left
          · (go_simp; first | done | with_reducible rfl)
          try simp only [Act.put, List.setIfInBounds_toArray, List.set_cons_zero, List.set_cons_succ]
          refine anyE_take (i := 2) (v := ?_) 156 rfl rfl (by kernel_rfl) (by kernel_rfl) (by decide) (fun _ _ _ h => h) (by kernel_rfl) (by kernel_rfl) (.inl ⟨by rfl, fun u hu => ?_⟩) hS ?_
          rotate_left
          · (go_simp; first | done | with_reducible rfl)
          try simp only [Act.put, List.setIfInBounds_toArray, List.set_cons_zero, List.set_cons_succ]
          refine anyE_take (i := 3) (v := ?_) 157 rfl rfl (by kernel_rfl) (by kernel_rfl) (by decide) (fun _ _ _ h => h) (by kernel_rfl) (by kernel_rfl) (.inl ⟨by rfl, fun u hu => ?_⟩) hS ?_
          rotate_left
          · (go_simp; first | done | with_reducible rfl)
          try simp only [Act.put, List.setIfInBounds_toArray, List.set_cons_zero, List.set_cons_succ]
          refine anyE_take (i := 4) (v := ?_) 158 rfl rfl (by kernel_rfl) (by kernel_rfl) (by decide) (fun _ _ _ h => h) (by kernel_rfl) (by kernel_rfl) (.inl ⟨by rfl, fun u hu => ?_⟩) hS ?_
          rotate_left
          · (go_simp; first | done | with_reducible rfl)
          try simp only [Act.put, List.setIfInBounds_toArray, List.set_cons_zero, List.set_cons_succ]
          refine anyE_take (i := 5) (v := ?_) 159 rfl rfl (by kernel_rfl) (by kernel_rfl) (by decide) (fun _ _ _ h => h) (by kernel_rfl) (by kernel_rfl) (.inl ⟨by rfl, fun u hu => ?_⟩) hS ?_
          rotate_left
          · (go_simp; first | done | with_reducible rfl)
          try simp only [Act.put, List.setIfInBounds_toArray, List.set_cons_zero, List.set_cons_succ]
          refine anyE_take (i := 6) (v := ?_) 160 rfl rfl (by kernel_rfl) (by kernel_rfl) (by decide) (fun _ _ _ h => h) (by kernel_rfl) (by kernel_rfl) (.inl ⟨by rfl, fun u hu => ?_⟩) hS ?_
          rotate_left
          · (have z0 := hu.val (i := 0) rfl; have z1 := hu.val (i := 1) rfl; go_simp; first | done | with_reducible rfl)
          try simp only [Act.put, List.setIfInBounds_toArray, List.set_cons_zero, List.set_cons_succ]
          refine anyE_take (i := 7) (v := ?_) 161 rfl rfl (by kernel_rfl) (by kernel_rfl) (by decide) (fun _ _ _ h => h) (by kernel_rfl) (by kernel_rfl) (.inl ⟨by rfl, fun u hu => ?_⟩) hS ?_
          rotate_left
          · (go_simp; first | done | with_reducible rfl)
          try simp only [Act.put, List.setIfInBounds_toArray, List.set_cons_zero, List.set_cons_succ]
          have f0 := hB0.x.val (i := 3) rfl
          have f1 := hB0.x.val (i := 4) rfl
          have f2 := hB0.x.val (i := 5) rfl
          have g0 := hB0.x.thawed 3
          have g1 := hB0.x.thawed 4
          have g2 := hB0.x.thawed 5
          refine anyE_oneG (i := 8) rfl (by kernel_rfl) (by rfl) (fun K hK => ?_)
          go_simp
          have hS' := ((hS.apart (a := ⟨p, 3, none⟩) (show os ≠ p by omega) (.int .i64 r)).apart (a := ⟨p, 4, none⟩) (show os ≠ p by omega) (.int .i64 C)).apart (a := ⟨p, 5, none⟩) (show os ≠ p by omega) (.int .i64 S)
          have hB1 := hB0.putx1 r C S
          have hU1 := ((hU0.setCell (a := ⟨p, 3, none⟩) (show w.heap.size ≤ p by omega) (.int .i64 r)).setCell (a := ⟨p, 4, none⟩) (show w.heap.size ≤ p by omega) (.int .i64 C)).setCell (a := ⟨p, 5, none⟩) (show w.heap.size ≤ p by omega) (.int .i64 S)
          refine hK.out _ _ (.inr hS') ?_
          clear hK hS hB0 hU0 f0 f1 f2 g0 g1 g2
          have hS := hS'
          clear hS'
          generalize World.setCell _ ⟨p, 5, none⟩ _ = u1 at *
          try simp only [Act.put, List.setIfInBounds_toArray, List.set_cons_zero, List.set_cons_succ]
          refine anyE_take (i := 9) (v := ?_) 162 rfl rfl (by kernel_rfl) (by kernel_rfl) (by decide) (fun _ _ _ h => h) (by kernel_rfl) (by kernel_rfl) (.inl ⟨by rfl, fun u hu => ?_⟩) hS ?_
          rotate_left
          · (go_simp; first | done | with_reducible rfl)
          try simp only [Act.put, List.setIfInBounds_toArray, List.set_cons_zero, List.set_cons_succ]
          have f0 := hB1.y.val (i := 2) rfl
          have f1 := hB1.y.val (i := 3) rfl
          have g0 := hB1.y.thawed 2
          have g1 := hB1.y.thawed 3
          refine anyE_oneG (i := 10) rfl (by kernel_rfl) (by rfl) (fun K hK => ?_)
          go_simp
          have HB2 := hid (hB1.puty1 D T)
          have HU2 := hid ((hU1.setCell (a := ⟨p1, 2, none⟩) (show w.heap.size ≤ p1 by omega) (.int .i64 D)).setCell (a := ⟨p1, 3, none⟩) (show w.heap.size ≤ p1 by omega) (.int .i64 T))
          refine hK.out _ _ (.inl rfl) (anyE_done (by kernel_rfl) ?_ _)
          clear hK hS hB1 hU1 f0 f1 g0 g1
          generalize World.setCell _ ⟨p1, 3, none⟩ _ = u2 at *
          go_wp2_with fail
          have HN1 := hid (fun (_ : 2 ≤ 2) => And.intro HHv.out.1 ((HMe.out.2 rfl) ▸ HHv.out.2))
          have HN0 := hid (fun (_ : 1 ≤ 2) => HI1.out (by omega))
          go_roundw
          case rel => exact ⟨2, r0, c0, s0, r, C, S, d0, t0, D, T, by omega, by go_num, HN0, HN1, HB2, HU2⟩
          case measure => simp [intOf]
    · obtain rfl : i = 2 := by omega
      obtain ⟨hc0, hs0⟩ := HI1.out (by omega)
      obtain ⟨hc1, hs1⟩ := HI2.out (by omega)
      have M00 := hid (fun w' (hU : Up w w') => pair_one HP.out HQ.out (HT.out.up hU) (HS.out.up hU) (HV1.out.up hU) HM1.out HQ6.out hc0 hs0)
      have M01 := hid (fun w' (hU : Up w w') => pair_one HP.out HQ.out (HT.out.up hU) (HS.out.up hU) (HV2.out.up hU) HM2.out HQ6.out hc0 hs1)
      have M10 := hid (fun w' (hU : Up w w') => pair_one HP.out HQ.out (HT.out.up hU) (HS.out.up hU) (HV1.out.up hU) HM1.out HQ6.out hc1 hs0)
      have M11 := hid (fun w' (hU : Up w w') => pair_one HP.out HQ.out (HT.out.up hU) (HS.out.up hU) (HV2.out.up hU) HM2.out HQ6.out hc1 hs1)
      clear HI1 HI2 hc0 hs0 hc1 hs1 HHon Mk HM1 HM2 HL1 HL2
      go_wp2_with fail
      go_loopw [164] (fun vi wq => ∃ (i : Nat), i ≤ 2 ∧ vi = .int .i64 i ∧ Hid (BoxP w4 wq o o1 o2 o3 p p1 p2 P Q G k0 k1 a0 a1 b0 b1 (.slice va1 n1 vc1) (.slice va2 n2 vc2) r0 c0 s0 r1 c1 s1 d0 t0 d1 t1) ∧ Hid (Up w wq)) (fun vi _ => 2 - (intOf vi).toNat)
      case atStart => exact ⟨0, by omega, rfl, HB, HU⟩
      case round =>
        clear HB HU
        obtain ⟨i, hi, rfl, HB, HU⟩ := hrel
        by_cases hl : i < 2
        · go_wp2_with fail
          go_loopw [167] (fun vj wq => ∃ (j : Nat), j ≤ 2 ∧ vj = .int .i64 j ∧ Hid (BoxP w4 wq o o1 o2 o3 p p1 p2 P Q G k0 k1 a0 a1 b0 b1 (.slice va1 n1 vc1) (.slice va2 n2 vc2) r0 c0 s0 r1 c1 s1 d0 t0 d1 t1) ∧ Hid (Up w wq)) (fun vj _ => 2 - (intOf vj).toNat)
          case atStart => exact ⟨0, by omega, rfl, HB, HU⟩
          case round =>
            clear HB HU
            obtain ⟨j, hj, rfl, HB, HU⟩ := hrel
            by_cases hlj : j < 2
            · have hij : (i = 0 ∨ i = 1) ∧ (j = 0 ∨ j = 1) := by omega
              have f0 := cellF HB.out.gg.1
              have f1 := cellF HB.out.gg.2.1
              have f2 := cellF HB.out.gg.2.2
              have x0 := cellF (HB.out.x.val (i := 0) rfl)
              have x1 := cellF (HB.out.x.val (i := 1) rfl)
              have x2 := cellF (HB.out.x.val (i := 2) rfl)
              have x3 := cellF (HB.out.x.val (i := 3) rfl)
              have x4 := cellF (HB.out.x.val (i := 4) rfl)
              have x5 := cellF (HB.out.x.val (i := 5) rfl)
              have y0 := cellF (HB.out.y.val (i := 0) rfl)
              have y1 := cellF (HB.out.y.val (i := 1) rfl)
              have y2 := cellF (HB.out.y.val (i := 2) rfl)
              have y3 := cellF (HB.out.y.val (i := 3) rfl)
              have z0 := cellF (HB.out.z.val (i := 0) rfl)
              have z1 := cellF (HB.out.z.val (i := 1) rfl)
              obtain ⟨hi2, hj2⟩ := hij
              rcases hi2 with rfl | rfl <;> rcases hj2 with rfl | rfl
              · go_wp2_with fail
                refine wp_region_up (by kernel_rfl) (by kernel_rfl) ?_
                repeat (go_big_quiet_step ((first
                  | (go_at_call 14; exact Calls.up_of (M00.out _ (HU.out.trans (UpFrom.up _)))))))
                refine wpQuiet_nil ?_
                rintro wz ⟨⟨_, hUz⟩, rfl⟩
                try dsimp only
                have HB2 := hid (HB.out.upp hUz)
                have HU2 := hid (HU.out.trans hUz)
                clear hUz f0 f1 f2 x0 x1 x2 x3 x4 x5 y0 y1 y2 y3 z0 z1
                go_wp2_with fail
                go_roundw
                case rel => exact ⟨1, by omega, by go_num, HB2, HU2⟩
                case measure => simp [intOf]
              · go_wp2_with fail
                refine wp_region_up (by kernel_rfl) (by kernel_rfl) ?_
                repeat (go_big_quiet_step ((first
                  | (go_at_call 14; exact Calls.up_of (M01.out _ (HU.out.trans (UpFrom.up _)))))))
                refine wpQuiet_nil ?_
                rintro wz ⟨⟨_, hUz⟩, rfl⟩
                try dsimp only
                have HB2 := hid (HB.out.upp hUz)
                have HU2 := hid (HU.out.trans hUz)
                clear hUz f0 f1 f2 x0 x1 x2 x3 x4 x5 y0 y1 y2 y3 z0 z1
                go_wp2_with fail
                go_roundw
                case rel => exact ⟨2, by omega, by go_num, HB2, HU2⟩
                case measure => simp [intOf]
              · go_wp2_with fail
                refine wp_region_up (by kernel_rfl) (by kernel_rfl) ?_
                repeat (go_big_quiet_step ((first
                  | (go_at_call 14; exact Calls.up_of (M10.out _ (HU.out.trans (UpFrom.up _)))))))
                refine wpQuiet_nil ?_
                rintro wz ⟨⟨_, hUz⟩, rfl⟩
                try dsimp only
                have HB2 := hid (HB.out.upp hUz)
                have HU2 := hid (HU.out.trans hUz)
                clear hUz f0 f1 f2 x0 x1 x2 x3 x4 x5 y0 y1 y2 y3 z0 z1
                go_wp2_with fail
                go_roundw
                case rel => exact ⟨1, by omega, by go_num, HB2, HU2⟩
                case measure => simp [intOf]
              · go_wp2_with fail
                refine wp_region_up (by kernel_rfl) (by kernel_rfl) ?_
                repeat (go_big_quiet_step ((first
                  | (go_at_call 14; exact Calls.up_of (M11.out _ (HU.out.trans (UpFrom.up _)))))))
                refine wpQuiet_nil ?_
                rintro wz ⟨⟨_, hUz⟩, rfl⟩
                try dsimp only
                have HB2 := hid (HB.out.upp hUz)
                have HU2 := hid (HU.out.trans hUz)
                clear hUz f0 f1 f2 x0 x1 x2 x3 x4 x5 y0 y1 y2 y3 z0 z1
                go_wp2_with fail
                go_roundw
                case rel => exact ⟨2, by omega, by go_num, HB2, HU2⟩
                case measure => simp [intOf]
            · obtain rfl : j = 2 := by omega
              go_wp2_with fail
              go_roundw
              case rel => exact ⟨i + 1, by omega, by go_num, HB, HU⟩
              case measure => simp [intOf]; omega
        · obtain rfl : i = 2 := by omega
          go_wp2
          go_ret
          exact ⟨rfl, HU.out⟩
end Go.Proofs.YtoaomjdpiealfaaGreatDoor
namespace Go.Proofs.YtoaomjdpiealfaaGreatDoor.lawBlindPairs
open Go.Proofs.YtoaomjdpiealfaaGreatDoor
theorem fact1 : (Rows.blindPairsRow.wf (OpenSpec.ofChange (OpenSpec.ofChange Rows.blindPairsSpec).bare) : Bool) = true := by kernel_rfl
theorem fact2 : (laidOutB Tryz.pinned.checked.prog : Bool) = true := by kernel_rfl
theorem fact3 : (mapsRowed Tryz.pinned.checked.prog : Bool) = true := by kernel_rfl
theorem fact4 : (Tryz.f3.params.all (Tryz.pinned.checked.prog.readableRec ·) : Bool) = true := by kernel_rfl
theorem fact5 : (namedTie Tryz.pinned.checked.prog Rows.blindPairsRow.named (OpenSpec.ofChange Rows.blindPairsSpec).bare.vars : Bool) = true := by kernel_rfl
theorem fact6 : ((Rows.blindPairsRow.stops == []) : Bool) = true := by kernel_rfl
theorem fact7 : ((Tryz.pinned.checked.prog.stops == []) : Bool) = true := by kernel_rfl
theorem fact8 : ((Rows.blindPairsRow.knobs == []) : Bool) = true := by kernel_rfl
theorem fact9 : ((Tryz.pinned.checked.prog.stopKnobs == []) : Bool) = true := by kernel_rfl
theorem fact10 : ((Rows.blindPairsRow.inPlace == Tryz.pinned.checked.prog.inPlace 3) : Bool) = true := by kernel_rfl
theorem fact11 : ((Rows.blindPairsRow.unfollowed == Tryz.pinned.checked.prog.unfollowed 3) : Bool) = true := by kernel_rfl
theorem fact12 : ((Rows.blindPairsRow.recurses == Tryz.pinned.checked.prog.recurses 3) : Bool) = true := by kernel_rfl
theorem fact13 : ((Rows.blindPairsRow.named == Tryz.pinned.checked.prog.varsNamed 3) : Bool) = true := by kernel_rfl
theorem fact14 : ((Rows.blindPairsRow.maps == (Tryz.f3.params.toList ++ (OpenSpec.ofChange Rows.blindPairsSpec).bare.plain.varTypes Tryz.pinned.checked.prog).any (Tryz.pinned.checked.prog.mapsRec ·)) : Bool) = true := by kernel_rfl
theorem fact15 : ((Rows.blindPairsRow.ifaces == (Tryz.f3.params.toList ++ (OpenSpec.ofChange Rows.blindPairsSpec).bare.plain.varTypes Tryz.pinned.checked.prog).any (Tryz.pinned.checked.prog.ifacesRec ·)) : Bool) = true := by kernel_rfl
theorem fact16 : ((Rows.blindPairsRow.mapsOut == Tryz.pinned.checked.prog.mapsAmong Tryz.f3.resultTypes.toList) : Bool) = true := by kernel_rfl
theorem fact17 : ((Rows.blindPairsRow.loops == (Tryz.f3.params.toList ++ (OpenSpec.ofChange Rows.blindPairsSpec).bare.plain.varTypes Tryz.pinned.checked.prog).any (Tryz.pinned.checked.prog.loopsFrom ·)) : Bool) = true := by kernel_rfl
theorem fact18 : ((Rows.blindPairsRow.wideKeys == (Tryz.f3.params.toList ++ (OpenSpec.ofChange Rows.blindPairsSpec).bare.plain.varTypes Tryz.pinned.checked.prog ++ Tryz.f3.resultTypes.toList).any (Tryz.pinned.checked.prog.wideKeysFrom ·)) : Bool) = true := by kernel_rfl
theorem fact19 : ((OpenSpec.ofChange Rows.blindPairsSpec).bare.vars.all (Tryz.pinned.checked.prog.varReadable ·) : Bool) = true := by kernel_rfl
theorem fact20 : (Tryz.f3.resultTypes.all (fun t => Tryz.pinned.checked.prog.readableRec t && decide (t < Tryz.pinned.checked.prog.types.size)) : Bool) = true := by kernel_rfl
theorem fact21 : ((Rows.blindPairsRow.ifacesOut == Tryz.f3.resultTypes.toList.any (Tryz.pinned.checked.prog.ifacesRec ·)) : Bool) = true := by kernel_rfl
theorem fact22 : ((Rows.blindPairsRow.loopsOut == Tryz.f3.resultTypes.toList.any (Tryz.pinned.checked.prog.loopsFrom ·)) : Bool) = true := by kernel_rfl
theorem fact23 : ((Rows.blindPairsRow.plainKeys == Tryz.pinned.checked.prog.plainKeys) : Bool) = true := by kernel_rfl
theorem fact24 : (Rows.blindPairsRow.shortTexts.isNone : Bool) = true := by kernel_rfl
theorem fact25 : (Tryz.pinned.checked.prog.stopsHeard : Bool) = true := by kernel_rfl
theorem fact26 : (Tryz.pinned.checked.prog.mayEnter : Bool) = true := by kernel_rfl
theorem fact27 : ((Rows.blindPairsRow.lifted == Tryz.pinned.checked.prog.liftsFinal) : Bool) = true := by kernel_rfl
theorem fact28 : ((Tryz.pinned.checked.prog.make == some Rows.blindPairsRow.make) : Bool) = true := by kernel_rfl
theorem fact29 : ((Rows.blindPairsRow.kinds == (if Rows.blindPairsRow.domain.isEmpty then [] else Tryz.f3.params.toList.map fun t => match Tryz.pinned.checked.prog.underlying t with | some (.int k) => some k | _ => none)) : Bool) = true := by kernel_rfl
theorem fact30 : ((Rows.blindPairsRow.pinned == Rows.blindPairsRow.pinnedBy) : Bool) = true := by kernel_rfl
theorem fact31 : ((Rows.blindPairsRow.veiled == (Tryz.f3.params.toList ++ (OpenSpec.ofChange Rows.blindPairsSpec).bare.plain.varTypes Tryz.pinned.checked.prog ++ Tryz.f3.resultTypes.toList).any (Tryz.pinned.checked.prog.veiledRec ·)) : Bool) = true := by kernel_rfl
theorem fact32 : (Rows.blindPairsRow.veiledFits Tryz.pinned.checked.prog Tryz.f3.params.toList (Tryz.f3.params.toList ++ (OpenSpec.ofChange Rows.blindPairsSpec).bare.plain.varTypes Tryz.pinned.checked.prog ++ Tryz.f3.resultTypes.toList) : Bool) = true := by kernel_rfl
theorem andB {a b : Bool} (h : a = true) (k : b = true) : (a && b) = true := by rw [h, k]; rfl
set_option maxRecDepth 100000 in
theorem closed : joinedFacts Tryz.pinned.checked.prog 3 Tryz.f3 (OpenSpec.ofChange Rows.blindPairsSpec).bare Rows.blindPairsRow = true := by
  unfold joinedFacts
  exact (andB (andB (andB (andB (andB (andB (andB (andB (andB (andB (andB (andB (andB (andB (andB (andB (andB (andB (andB (andB (andB (andB (andB (andB (andB (andB (andB (andB (andB (andB (andB fact1 fact2) fact3) fact4) fact5) fact6) fact7) fact8) fact9) fact10) fact11) fact12) fact13) fact14) fact15) fact16) fact17) fact18) fact19) fact20) fact21) fact22) fact23) fact24) fact25) fact26) fact27) fact28) fact29) fact30) fact31) fact32)
end Go.Proofs.YtoaomjdpiealfaaGreatDoor.lawBlindPairs
namespace Go.Proofs.YtoaomjdpiealfaaGreatDoor.lawBlindPairs
open Go.Proofs.YtoaomjdpiealfaaGreatDoor Go.ChangeShapes Go.WideShapes Go.ChangeAt Go.RowKit Go.Sp

set_option maxRecDepth 100000 in
theorem contract (H : Type) (enc : TypeId × Value → H) (W : World) (base : Nat) (args : Array Value) (ds gs : List (DataW H)) (before : List MemPlace)
    (hval : ∀ (j : Nat) t v, Tryz.f3.params[j]? = some t → args[j]? = some v → Value.okWide Tryz.prog W .any base t v)
    (hW : DataW.Whole enc Tryz.prog Tryz.f3.params.toList Rows.blindPairsSpec.vars false W args.toList ds gs before) (hL : laidMetH Tryz.prog Rows.blindPairsRow.laid W) :
    Calls Tryz.prog 3 args W fun e W' => ∃ v, e = .returned v ∧ Rows.blindPairsSpec.post enc Tryz.prog Tryz.f3 false true false false W args v W' := by
  have hT := tab_of_four hL
  have hS := tabS_of_four hL
  have hW' := hW
  obtain ⟨p, q, hA0, hV, rfl, hfz, hnd⟩ := hW
  have hA : DataW.TrodAll enc Tryz.prog W 0 (fun _ => true) true Tryz.f3.params.toList args.toList ds p := hA0
  rw [Tryz.params3] at hA hval
  obtain ⟨v0, vs0, d0, ds0, p0, q0, hargs, rfl, rfl, h0, r0⟩ := trodAll_cons hA
  obtain ⟨v1, vs1, d1, ds1, p1, q1, rfl, rfl, rfl, h1, r1⟩ := trodAll_cons r0
  obtain ⟨v2, vs2, d2, ds2, p2, q2, rfl, rfl, rfl, h2, r2⟩ := trodAll_cons r1
  obtain ⟨v3, vs3, d3, ds3, p3, q3, rfl, rfl, rfl, h3, r3⟩ := trodAll_cons r2
  obtain ⟨v4, vs4, d4, ds4, p4, q4, rfl, rfl, rfl, h4, r4⟩ := trodAll_cons r3
  obtain ⟨v5, vs5, d5, ds5, p5, q5, rfl, rfl, rfl, h5, r5⟩ := trodAll_cons r4
  obtain ⟨v6, vs6, d6, ds6, p6, q6, rfl, rfl, rfl, h6, r6⟩ := trodAll_cons r5
  obtain ⟨rfl, rfl, rfl⟩ := trodAll_nil r6
  obtain rfl : args = #[v0, v1, v2, v3, v4, v5, v6] := by cases args; simp_all
  obtain ⟨rfl, rfl⟩ := trodVars_none hV
  obtain ⟨P0, Q0, G0, rfl, bP0, bQ0, bG0⟩ := open_grp (hval 0 23 v0 rfl rfl) h0
  obtain ⟨x1, rfl, bx1, by1⟩ := open_i64 (hval 1 3 v1 rfl rfl) h1
  obtain ⟨x2a, x2b, rfl, b2⟩ := open_two (hval 2 24 v2 rfl rfl) h2
  obtain ⟨x3a, x3b, rfl, b3⟩ := open_two (hval 3 24 v3 rfl rfl) h3
  obtain ⟨x4a, x4b, rfl, b4⟩ := open_two (hval 4 24 v4 rfl rfl) h4
  obtain ⟨xs5, hs5, bs5⟩ := open_bytes (hval 5 25 v5 rfl rfl) h5
  obtain ⟨xs6, hs6, bs6⟩ := open_bytes (hval 6 25 v6 rfl rfl) h6
  refine (BlindPairs_walk P0 Q0 G0 x1 x2a x2b x3a x3b x4a x4b v5 v6 xs5 xs6 W bP0.1 bQ0.2 hT hS hs5 bs5 hs6 bs6).mono fun e W' ⟨he, hU⟩ => ?_
  exact ⟨_, he, law_shut Tryz.underlying4 (by kernel_rfl) rfl rfl laidOut (by kernel_rfl) hW' hU⟩

theorem laid_met (os : Os) : laidMet Tryz.prog Rows.blindPairsRow.laid ((World.laidAll Tryz.prog os laidFour).forCall (fun _ _ => 0) ⟨#[], #[.agg #[.int .i64 0, .int .i64 0, .int .i64 0], .int .i64 0, .agg #[.int .i64 0, .int .i64 0], .agg #[.int .i64 0, .int .i64 0], .agg #[.int .i64 0, .int .i64 0], .slice none 0 0, .slice none 0 0], []⟩).memory :=
  laidMet_laidAll _ (by kernel_rfl) (by kernel_rfl)
theorem reads (os : Os) {H : Type} (enc : TypeId × Value → H) : ∃ places, DataW.whole enc Tryz.prog ((World.laidAll Tryz.prog os laidFour).forCall (fun _ _ => 0) ⟨#[], #[.agg #[.int .i64 0, .int .i64 0, .int .i64 0], .int .i64 0, .agg #[.int .i64 0, .int .i64 0], .agg #[.int .i64 0, .int .i64 0], .agg #[.int .i64 0, .int .i64 0], .slice none 0 0, .slice none 0 0], []⟩).memory Tryz.f3.params.toList Rows.blindPairsSpec.vars false (#[.agg #[.int .i64 0, .int .i64 0, .int .i64 0], .int .i64 0, .agg #[.int .i64 0, .int .i64 0], .agg #[.int .i64 0, .int .i64 0], .agg #[.int .i64 0, .int .i64 0], .slice none 0 0, .slice none 0 0] : Array Value).toList 8 = some ([.agg [.lit (.int .i64 0), .lit (.int .i64 0), .lit (.int .i64 0)], .lit (.int .i64 0), .agg [.lit (.int .i64 0), .lit (.int .i64 0)], .agg [.lit (.int .i64 0), .lit (.int .i64 0)], .agg [.lit (.int .i64 0), .lit (.int .i64 0)], .nil, .nil], [], places) :=
  ⟨[], by kernel_rfl⟩

set_option maxRecDepth 100000 in
theorem lifted (os : Os) (started : os.Started) (H : Type) (enc : TypeId × Value → H) (F : Stop.Interp) :
    ReturnsInHanded {} Tryz.checked os 3 .any ((OpenSpec.ofChange Rows.blindPairsSpec).preRow enc Tryz.prog Tryz.f3 Rows.blindPairsRow.domain false Rows.blindPairsRow.laid) (((OpenSpec.ofChange Rows.blindPairsSpec).at F).post enc Tryz.prog Tryz.f3 false true false false) := by
  obtain ⟨places, hx⟩ := reads os enc
  refine returnsInHanded_of_row (C := Tryz.checked) (s := OpenSpec.ofChange Rows.blindPairsSpec) own started (by kernel_rfl) Tryz.func3
    (witness_row_at (enc := enc) (C := Tryz.checked) false (World.laidAll Tryz.prog os laidFour) #[.agg #[.int .i64 0, .int .i64 0, .int .i64 0], .int .i64 0, .agg #[.int .i64 0, .int .i64 0], .agg #[.int .i64 0, .int .i64 0], .agg #[.int .i64 0, .int .i64 0], .slice none 0 0, .slice none 0 0] (World.laidAll_os _ _ _) (by kernel_rfl) (by kernel_rfl) (by kernel_rfl)
      (OpenSpec.preRow_of_cond 8 hx (by kernel_rfl) (fun k hk => by cases hk) (by kernel_rfl) (laid_met os))) ?_
  intro W base args ds gs before hval hW _ _ _ hL _ _
  exact contract H enc W base args ds gs before hval hW hL

theorem said : Rows.BlindPairsSaid :=
  OpenClaim.holds_of_cond 3 Tryz.f3 rfl rfl rfl rfl rfl rfl rfl ⟨rfl, rfl, rfl, rfl, rfl⟩ rfl rfl rfl rfl rfl (by kernel_rfl) Tryz.func3 closed
    (of_decide_eq_true (by kernel_rfl)) (by unfold Func.isWrapper; first | (rw [if_pos (by decide +kernel)]; kernel_rfl) | (rw [if_neg (by decide +kernel)]; exact ⟨rfl, rfl⟩))
    (fun os started H enc _ F => by rw [OpenClaim.pre_eq_preRow]; exact lifted os started H enc F)

theorem plain (f : FuncId) (fn : Func) (hf : Tryz.pinned.checked.prog.funcNamed "specie/specielaw23.BlindPairs" = some f) (hfn : Tryz.pinned.checked.prog.funcs[f]? = some fn) :
    false = Tryz.pinned.checked.prog.looks [] ∧ ∀ (j : Nat) t, fn.params[j]? = some t → Tryz.pinned.checked.prog.wantsStandIn t = false := by
  obtain rfl : f = 3 := Option.some.inj ((show Tryz.prog.funcNamed "specie/specielaw23.BlindPairs" = some 3 by kernel_rfl).symm.trans hf) |>.symm
  obtain rfl : fn = Tryz.f3 := (Option.some.inj (Tryz.func3.symm.trans hfn)).symm
  refine ⟨by kernel_rfl, fun j t ht => ?_⟩
  have hall : Tryz.f3.params.toList.all (fun t => !Tryz.prog.wantsStandIn t) = true := by kernel_rfl
  have := List.all_eq_true.1 hall t (by rw [← Array.mem_toList_iff.symm]; exact Array.mem_of_getElem? ht)
  exact (by simpa using this : Tryz.prog.wantsStandIn t = false)

/-- The card. -/
theorem card : Rows.BlindPairsCardSaid :=
  Claim7.holds_tied_plain_at .later [] _ _ _ _ said (fun _ h => by cases h) (by kernel_rfl) (fun _ h => by cases h) blindPairs_row_tie rfl ⟨rfl, rfl⟩ (by kernel_rfl) rfl plain (by kernel_rfl)
end Go.Proofs.YtoaomjdpiealfaaGreatDoor.lawBlindPairs
