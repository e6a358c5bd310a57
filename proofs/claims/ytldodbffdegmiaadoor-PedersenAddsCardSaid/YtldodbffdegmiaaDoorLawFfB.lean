/- PedersenAdds: the walk. -/
import Derived.Test.YtldodbffdegmiaaDoorPedE
import Derived.IntWalk
namespace Go.Proofs.YtldodbffdegmiaaDoor
open Go.RowKit Go.Sp
set_option maxHeartbeats 4000000
set_option maxRecDepth 20000

theorem ints_five {w : World} {b cap : Nat} {x y z u v : Int} (h : w.cell? ⟨b, 0, none⟩ = some (.int .i64 x)) (h1 : w.cell? ⟨b, 1, none⟩ = some (.int .i64 y)) (h2 : w.cell? ⟨b, 2, none⟩ = some (.int .i64 z)) (h3 : w.cell? ⟨b, 3, none⟩ = some (.int .i64 u)) (h4 : w.cell? ⟨b, 4, none⟩ = some (.int .i64 v)) : IntsAt w (.slice (some ⟨b, 0, none⟩) 5 cap) [x, y, z, u, v] :=
  ints_at (xs := [x, y, z, u, v]) (by simp) fun i hi => by
    have : i = 0 ∨ i = 1 ∨ i = 2 ∨ i = 3 ∨ i = 4 := by simp at hi; omega
    rcases this with rfl | rfl | rfl | rfl | rfl
    · exact h
    · exact h1
    · exact h2
    · exact h3
    · exact h4

theorem PedersenAdds_walk (P Q G A B C m r n s k : Int) (w : World) (hP : -9223372036854775808 ≤ P) (hQ : Q ≤ 9223372036854775807) (hT : Tab w) :
    Calls Tryd.prog 16 #[bas P Q G A B C, .int .i64 m, .int .i64 r, .int .i64 n, .int .i64 s, .int .i64 k] w fun e w' => e = .returned (.bool true) ∧ Up w w' := by
  have HT := hid hT
  clear hT
  go_enter Tryd.func16, Tryd.ntmps16
  go_wp2_with fail
  refine (awake15 _ (HT.out.up ((Up.refl w).alloc _))).mono ?_
  rintro e w1 ⟨rfl, hU1⟩
  have HA1 := hid (bas_reads (o := .cells #[.int .i64 P, .int .i64 Q, .int .i64 G, .int .i64 A, .int .i64 B, .int .i64 C] 73) rfl hU1)
  have HU1 := hid (((Up.refl w).alloc _).trans hU1)
  clear hU1
  obtain ⟨⟨c0, c1, c2⟩, c3, c4, c5⟩ := HA1.out
  go_wp2_with fail
  refine (rbValid_any P Q G A B C _ hP hQ).mono ?_
  rintro e w2 ⟨rfl, hU2⟩
  have HA2 := hid (HA1.out.up hU2)
  have HU2 := hid (HU1.out.trans hU2)
  clear hU2 c0 c1 c2 c3 c4 c5 HA1
  obtain ⟨⟨c0, c1, c2⟩, c3, c4, c5⟩ := HA2.out
  by_cases hb : bvB P Q G A B C = true
  case neg =>
    have hb' : bvB P Q G A B C = false := by simpa using hb
    rw [hb']
    clear hb hb'
    go_wp2_with fail
    refine (awake15 _ (HT.out.up HU2.out)).mono ?_
    rintro e w3 ⟨rfl, hU3⟩
    go_wp2
    go_ret
    exact ⟨rfl, HU2.out.trans hU3⟩
  have Hb := hid hb
  obtain ⟨hg, _⟩ := bv_iff.1 hb
  have g := gv_iff.1 hg
  have g1 := g.P61
  have g2 := g.P4
  have g3 := g.Q3
  have g4 := g.QP
  rw [hb]
  clear hb g hg
  go_wp2_with fail
  refine (rScalars_any P Q G _ [m, r, n, s, k] _ (ints_five (by go_simp) (by go_simp) (by go_simp) (by go_simp) (by go_simp))).mono ?_
  rintro e w3 ⟨rfl, hU3⟩
  have HA3 := hid (HA2.out.up (((Up.refl w2).alloc _).trans hU3))
  have HU3 := hid (HU2.out.trans (((Up.refl w2).alloc _).trans hU3))
  clear hU3 c0 c1 c2 c3 c4 c5 HA2
  obtain ⟨⟨c0, c1, c2⟩, c3, c4, c5⟩ := HA3.out
  by_cases hs : [m, r, n, s, k].all (exB Q) = true
  case neg =>
    have hs' : [m, r, n, s, k].all (exB Q) = false := by simpa using hs
    rw [hs']
    clear hs hs'
    go_wp2_with fail
    refine (awake15 _ (HT.out.up HU3.out)).mono ?_
    rintro e w4 ⟨rfl, hU4⟩
    go_wp2
    go_ret
    exact ⟨rfl, HU3.out.trans hU4⟩
  rw [hs]
  simp only [List.all_cons, List.all_nil, Bool.and_true, Bool.and_eq_true] at hs
  obtain ⟨hm, hr, hn, hs', hk⟩ := hs
  obtain ⟨m0, m1⟩ := exB_iff.1 hm
  obtain ⟨r0, r1⟩ := exB_iff.1 hr
  obtain ⟨n0, n1⟩ := exB_iff.1 hn
  obtain ⟨s0, s1⟩ := exB_iff.1 hs'
  obtain ⟨k0, k1⟩ := exB_iff.1 hk
  -- the contracts, as they are here
  obtain ⟨X, hX⟩ : ∃ X, comV P Q G C m r = X := ⟨_, rfl⟩
  obtain ⟨Y, hY⟩ : ∃ Y, comV P Q G C n s = Y := ⟨_, rfl⟩
  have hXe := com_el (m := m) (r := r) Hb.out
  have hYe := com_el (m := n) (r := s) Hb.out
  have HC1 : Hid (∀ w', Tab w' → Calls Tryd.prog 62 #[bas P Q G A B C, .int .i64 m, .int .i64 r] w' fun e w'' => e = .returned (.tuple #[.int .i64 X, .int .i64 0]) ∧ Up w' w'') := hid (fun w' hT => by
    have h := Commit_any P Q G A B C m r w' hP hQ hT
    rw [(com_good Hb.out hm hr).2, (com_good Hb.out hm hr).1, hX] at h
    exact h)
  have HC2 : Hid (∀ w', Tab w' → Calls Tryd.prog 62 #[bas P Q G A B C, .int .i64 n, .int .i64 s] w' fun e w'' => e = .returned (.tuple #[.int .i64 Y, .int .i64 0]) ∧ Up w' w'') := hid (fun w' hT => by
    have h := Commit_any P Q G A B C n s w' hP hQ hT
    rw [(com_good Hb.out hn hs').2, (com_good Hb.out hn hs').1, hY] at h
    exact h)
  rw [hX] at hXe
  rw [hY] at hYe
  obtain ⟨Z, hZ⟩ : ∃ Z, X * Y % P = Z := ⟨_, rfl⟩
  obtain ⟨V, hV⟩ : ∃ V, gpw P Q X k = V := ⟨_, rfl⟩
  have HAd : Hid (∀ w', Tab w' → Calls Tryd.prog 72 #[bas P Q G A B C, .int .i64 X, .int .i64 Y] w' fun e w'' => e = .returned (.tuple #[.int .i64 Z, .int .i64 0]) ∧ Up w' w'') := hid (fun w' hT => by
    have h := Add_any P Q G A B C X Y w' hP hQ hT
    have h0 : givE P Q G A B C [] [X, Y] = 0 := giv_zero.2 ⟨Hb.out, by simp, by simp [hXe, hYe]⟩
    rw [h0, if_pos rfl, hZ] at h
    exact h)
  have HSc : Hid (∀ w', Tab w' → Calls Tryd.prog 73 #[bas P Q G A B C, .int .i64 X, .int .i64 k] w' fun e w'' => e = .returned (.tuple #[.int .i64 V, .int .i64 0]) ∧ Up w' w'') := hid (fun w' hT => by
    have h := Scale_any P Q G A B C X k w' hP hQ hT
    have h0 : givE P Q G A B C [k] [X] = 0 := giv_zero.2 ⟨Hb.out, by simp [hk], by simp [hXe]⟩
    rw [h0, if_pos rfl, hV] at h
    exact h)
  have HSh : Hid (∀ w', Tab w' → Calls Tryd.prog 63 #[bas P Q G A B C, .int .i64 X, .int .i64 n, .int .i64 s] w' fun e w'' => e = .returned (.tuple #[.int .i64 Z, .int .i64 0]) ∧ Up w' w'') := hid (fun w' hT => by
    have h := Shift_any P Q G A B C X n s w' hP hQ hT
    have h0 : givE P Q G A B C [n, s] [X] = 0 := giv_zero.2 ⟨Hb.out, by simp [hn, hs'], by simp [hXe]⟩
    rw [h0, if_pos rfl, hY, hZ] at h
    exact h)
  have HO1 : Hid (∀ w', Tab w' → Calls Tryd.prog 64 #[bas P Q G A B C, .int .i64 Z, .int .i64 ((m + n) % Q), .int .i64 ((r + s) % Q)] w' fun e w'' => e = .returned (.bool true) ∧ Up w' w'') := hid (fun w' hT => by
    have h := Open_any P Q G A B C Z ((m + n) % Q) ((r + s) % Q) w' hP hQ hT
    have h1 := com_good Hb.out (ex_mod (x := m + n) (by omega)) (ex_mod (x := r + s) (by omega))
    rw [h1.1, h1.2, ← com_add Hb.out, hX, hY, hZ, show ((0 : Int) == 0 && Z == Z) = true by simp] at h
    exact h)
  have HO2 : Hid (∀ w', Tab w' → Calls Tryd.prog 64 #[bas P Q G A B C, .int .i64 V, .int .i64 (m * k % Q), .int .i64 (r * k % Q)] w' fun e w'' => e = .returned (.bool true) ∧ Up w' w'') := hid (fun w' hT => by
    have h := Open_any P Q G A B C V (m * k % Q) (r * k % Q) w' hP hQ hT
    have h1 := com_good Hb.out (ex_mod (x := m * k) (by omega)) (ex_mod (x := r * k) (by omega))
    rw [h1.1, h1.2, ← com_pow Hb.out, hX, hV, show ((0 : Int) == 0 && V == V) = true by simp] at h
    exact h)
  have HR1 := hid (fun w' => rReduce_ok (m + n) Q w' (by omega) (by omega) (by omega) (by omega))
  have HR2 := hid (fun w' => rReduce_ok (r + s) Q w' (by omega) (by omega) (by omega) (by omega))
  have HM1 := hid (fun w' => rMul_ok m k Q w' m0 m1 k0 k1 (by omega))
  have HM2 := hid (fun w' => rMul_ok r k Q w' r0 r1 k0 k1 (by omega))
  generalize (m + n) % Q = mn at *
  generalize (r + s) % Q = rs at *
  generalize m * k % Q = mk at *
  generalize r * k % Q = rk at *
  clear hX hY hXe hYe hZ hV hm hr hn hs' hk
  have t1 : IntKind.i64.wrap (m + n) = m + n := IntWalk.i64_in _ (by omega)
  have t2 : IntKind.i64.wrap (r + s) = r + s := IntWalk.i64_in _ (by omega)
  have T1 := hid t1
  have T2 := hid t2
  clear t1 t2
  go_wp2_with fail
  refine (HC1.out _ (HT.out.up HU3.out)).mono ?_
  rintro e w4 ⟨rfl, hU4⟩
  have HA4 := hid (HA3.out.up hU4)
  have HU4 := hid (HU3.out.trans hU4)
  clear hU4 c0 c1 c2 c3 c4 c5 HA3
  obtain ⟨⟨c0, c1, c2⟩, c3, c4, c5⟩ := HA4.out
  go_wp2_with fail
  refine (HC2.out _ (HT.out.up HU4.out)).mono ?_
  rintro e w5 ⟨rfl, hU5⟩
  have HA5 := hid (HA4.out.up hU5)
  have HU5 := hid (HU4.out.trans hU5)
  clear hU5 c0 c1 c2 c3 c4 c5 HA4
  obtain ⟨⟨c0, c1, c2⟩, c3, c4, c5⟩ := HA5.out
  go_wp2_with fail
  refine (HAd.out _ (HT.out.up HU5.out)).mono ?_
  rintro e w6 ⟨rfl, hU6⟩
  have HA6 := hid (HA5.out.up hU6)
  have HU6 := hid (HU5.out.trans hU6)
  clear hU6 c0 c1 c2 c3 c4 c5 HA5
  obtain ⟨⟨c0, c1, c2⟩, c3, c4, c5⟩ := HA6.out
  go_wp2_with fail
  refine (HSc.out _ (HT.out.up HU6.out)).mono ?_
  rintro e w7 ⟨rfl, hU7⟩
  have HA7 := hid (HA6.out.up hU7)
  have HU7 := hid (HU6.out.trans hU7)
  clear hU7 c0 c1 c2 c3 c4 c5 HA6
  obtain ⟨⟨c0, c1, c2⟩, c3, c4, c5⟩ := HA7.out
  go_wp2_with fail
  refine (HSh.out _ (HT.out.up HU7.out)).mono ?_
  rintro e w8 ⟨rfl, hU8⟩
  have HA8 := hid (HA7.out.up hU8)
  have HU8 := hid (HU7.out.trans hU8)
  clear hU8 c0 c1 c2 c3 c4 c5 HA7
  obtain ⟨⟨c0, c1, c2⟩, c3, c4, c5⟩ := HA8.out
  go_wp2_with fail
  have f0 := cellF c0
  have f1 := cellF c1
  have f2 := cellF c2
  have f3 := cellF c3
  have f4 := cellF c4
  have f5 := cellF c5
  have t1 := T1.out
  have t2 := T2.out
  refine wp_region_up (by kernel_rfl) (by kernel_rfl) ?_
  repeat (go_big_quiet_step ((first
    | (go_at_call_of 69 (Value.int .i64 (m + n)); exact Calls.up_same (HR1.out _))
    | (go_at_call_of 69 (Value.int .i64 (r + s)); exact Calls.up_same (HR2.out _))
    | (go_at_call_of 70 m; exact Calls.up_same (HM1.out _))
    | (go_at_call_of 70 r; exact Calls.up_same (HM2.out _))
    | (go_at_call_of 64 Z; exact Calls.up_of (HO1.out _ (HT.out.up (HU8.out.trans (UpFrom.up _)))))
    | (go_at_call_of 64 V; exact Calls.up_of (HO2.out _ (HT.out.up (HU8.out.trans (UpFrom.up _)))))))) 
  refine wpQuiet_nil ?_
  rintro _ ⟨p, rfl⟩
  go_wp2
  go_ret
  exact ⟨rfl, HU8.out.trans p.up⟩
end Go.Proofs.YtldodbffdegmiaaDoor
