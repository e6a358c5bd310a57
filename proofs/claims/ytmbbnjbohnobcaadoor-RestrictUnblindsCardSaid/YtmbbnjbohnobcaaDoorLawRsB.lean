/- RestrictUnblinds: the walk. -/
import Derived.Test.YtmbbnjbohnobcaaDoorResG
import Derived.Test.YtmbbnjbohnobcaaDoorLawRsA
namespace Go.Proofs.YtmbbnjbohnobcaaDoor
open Go.RowKit Go.Sp
set_option maxHeartbeats 2000000
set_option maxRecDepth 20000

theorem RestrictUnblinds_walk (P Q G A B C k1 k2 k3 m z x y c r sz sa sb sr s u v : Int) (w : World) (hP : -9223372036854775808 ≤ P) (hQ : Q ≤ 9223372036854775807) (hT : Tab w) :
    Calls Tryd.prog 5 #[bas P Q G A B C, bkey k1 k2 k3, vw m z x y c r, sgn sz sa sb sr, .agg #[.int .i64 s, .int .i64 u, .int .i64 v]] w fun e w' => e = .returned (.bool true) ∧ Up w w' := by
  have HT := hid hT
  have M1 := hid (fun w' (hU : Up w w') => resUnblind_any P Q G A B C k1 k2 k3 m z x y c r sz sa sb sr s u v w' hP hQ (hT.up hU))
  have M2 := hid (fun w' (_ : Up w w') => r25Unblind_any P Q G A B C k1 k2 k3 m z x y c r sz sa sb sr s u v w' hP hQ)
  generalize unE P Q G A B C k1 k2 k3 m z x y c r s u v = E at *
  generalize orZ E sz = X0 at *
  generalize orZ E sa = X1 at *
  generalize orZ E sb = X2 at *
  generalize orZ E ((r * u % Q + v) % Q) = X3 at *
  clear hT
  obtain ⟨o, ho⟩ : ∃ o, w.heap.size = o := ⟨_, rfl⟩
  have HO := hid ho
  clear ho
  go_enter Tryd.func5, Tryd.ntmps5
  go_wp2_with fail
  have HV0 : Hid (UnbAt (((((w.alloc (.cells #[.int .i64 P, .int .i64 Q, .int .i64 G, .int .i64 A, .int .i64 B, .int .i64 C] 39)).alloc (.cells #[.int .i64 k1, .int .i64 k2, .int .i64 k3] 41)).alloc (.cells #[.int .i64 m, .int .i64 z, .int .i64 x, .int .i64 y, .int .i64 c, .int .i64 r] 56)).alloc (.cells #[.int .i64 sz, .int .i64 sa, .int .i64 sb, .int .i64 sr] 58)).alloc (.cells #[.int .i64 s, .int .i64 u, .int .i64 v] 60)) o P Q G A B C k1 k2 k3 m z x y c r sz sa sb sr s u v) := hid (unb_new HO.out)
  have HU0 := hid ((((((Up.refl w).alloc (.cells #[.int .i64 P, .int .i64 Q, .int .i64 G, .int .i64 A, .int .i64 B, .int .i64 C] 39)).alloc (.cells #[.int .i64 k1, .int .i64 k2, .int .i64 k3] 41)).alloc (.cells #[.int .i64 m, .int .i64 z, .int .i64 x, .int .i64 y, .int .i64 c, .int .i64 r] 56)).alloc (.cells #[.int .i64 sz, .int .i64 sa, .int .i64 sb, .int .i64 sr] 58)).alloc (.cells #[.int .i64 s, .int .i64 u, .int .i64 v] 60))
  refine (awake25 _ (HT.out.up HU0.out)).mono ?_
  rintro e w1 ⟨rfl, hU1⟩
  rw [HO.out]
  have HV1 := hid (HV0.out.up hU1)
  have HU1 := hid (HU0.out.trans hU1)
  clear hU1 HV0 HU0
  obtain ⟨⟨⟨⟨c0, c1, c2⟩, c3, c4, c5⟩, ⟨e0, e1, e2⟩, ⟨b0, b1, b2⟩, b3, b4, b5⟩, hS, a0, a1, a2⟩ := HV1.out
  have s0 := hS.val (i := 0) rfl
  have s1 := hS.val (i := 1) rfl
  have s2 := hS.val (i := 2) rfl
  have s3 := hS.val (i := 3) rfl
  clear hS
  go_wp2_with fail
  refine (M1.out _ HU1.out).mono ?_
  rintro e w2 ⟨rfl, hU2⟩
  have HV2 := hid (HV1.out.up hU2)
  have HU2 := hid (HU1.out.trans hU2)
  clear hU2 c0 c1 c2 c3 c4 c5 e0 e1 e2 b0 b1 b2 b3 b4 b5 a0 a1 a2 s0 s1 s2 s3 HV1
  obtain ⟨⟨⟨⟨c0, c1, c2⟩, c3, c4, c5⟩, ⟨e0, e1, e2⟩, ⟨b0, b1, b2⟩, b3, b4, b5⟩, hS, a0, a1, a2⟩ := HV2.out
  have s0 := hS.val (i := 0) rfl
  have s1 := hS.val (i := 1) rfl
  have s2 := hS.val (i := 2) rfl
  have s3 := hS.val (i := 3) rfl
  clear hS
  have l0 := cell_lt c0
  have l1 := cell_lt e0
  have l2 := cell_lt b0
  have l3 := cell_lt s0
  have l4 := cell_lt a0
  go_wp2_with fail
  refine (M2.out _ (HU2.out.alloc _)).mono ?_
  rintro e w3 ⟨rfl, hU3⟩
  obtain ⟨q, hq⟩ : ∃ q, w2.heap.size = q := ⟨_, rfl⟩
  rw [hq]
  have HR3 : Hid (Blk w3 q 58 #[.int .i64 X0, .int .i64 X1, .int .i64 X2, .int .i64 X3]) := hid ((Blk.new hq rfl).up hU3)
  have HU3 := hid ((HU2.out.alloc _).trans hU3)
  clear hU3 c0 c1 c2 c3 c4 c5 e0 e1 e2 b0 b1 b2 b3 b4 b5 a0 a1 a2 s0 s1 s2 s3 HV2 hq l0 l1 l2 l3 l4
  have c0 := HR3.out.val (i := 0) rfl
  have c1 := HR3.out.val (i := 1) rfl
  have c2 := HR3.out.val (i := 2) rfl
  have c3 := HR3.out.val (i := 3) rfl
  have l0 := cell_lt c0
  go_wp2
  go_ret
  exact ⟨rfl, HU3.out.alloc _⟩
end Go.Proofs.YtmbbnjbohnobcaaDoor
