/- Package blind: Unblind; why what is unblinded is right. Package blind: Count. Package blind: Blind. Why an honest withdrawal ends in a right signature, and why every right view and every right signature belong together. The examples of layer 23. -/
import Derived.Test.YtoaomjdpiealfaaGreatDoorMB26
import Derived.Test.YtoaomjdpiealfaaGreatDoorMB13
namespace Go.Proofs.YtoaomjdpiealfaaGreatDoor
open Go.RowKit Go.Sp
set_option maxHeartbeats 4000000
set_option maxRecDepth 20000

theorem ml (a b m : Int) : a % m * b % m = a * b % m := by rw [Int.mul_emod, Int.emod_emod, ← Int.mul_emod]
theorem mr (a b m : Int) : a * (b % m) % m = a * b % m := by rw [Int.mul_emod, Int.emod_emod, ← Int.mul_emod]
theorem neg_mod (x Q : Int) : (-(x % Q)) % Q = (-x) % Q := by
  rw [Int.neg_emod_eq_sub_emod, Int.sub_emod, Int.emod_emod, ← Int.sub_emod]
  rw [Int.neg_emod_eq_sub_emod]
theorem frgV_gpw {P Q G y c s : Int} (h0 : 0 ≤ s) (h1 : s < Q) : frgV P Q G y c s = gpw P Q G s * gpw P Q y (-c) % P := by rw [frgV, gpw_sc h0 h1]
theorem mod_sub_add {Q a b c : Int} (h : a = (b + c) % Q) (h0 : 0 ≤ b) (h1 : b < Q) : (a - c) % Q = b := by
  subst h
  rw [Int.sub_emod, Int.emod_emod, ← Int.sub_emod, show b + c - c = b by omega]
  exact Int.emod_eq_of_lt h0 h1
theorem mod_add_sub {Q a b c : Int} (h : a = (b - c) % Q) (h0 : 0 ≤ b) (h1 : b < Q) : (c + a) % Q = b := by
  subst h
  rw [Int.add_emod, Int.emod_emod, ← Int.add_emod, show c + (b - c) = b by omega]
  exact Int.emod_eq_of_lt h0 h1
/-- What is unblinded fits the blinded commitment. -/
theorem unblind_fits {P Q G y r al be ch s : Int} (hg : gvB P Q G = true) (hy : elB P Q y = true) (hr : elB P Q r = true) (hs : exB Q s = true) (h : frgV P Q G y ((ch + be) % Q) s = r) :
    frgV P Q G y ch ((s + al) % Q) = bcm P Q G y r al be := by
  have g := gv_iff.1 hg
  have g2 := g.P4
  have g3 := g.Q3
  have hs2 := exB_iff.1 hs
  have hG := sgen_el hg
  rw [bcm_eq (by omega) hr, ← h, frgV_gpw hs2.1 hs2.2, frgV_gpw (Int.emod_nonneg _ (by omega)) (Int.emod_lt_of_pos _ (by omega))]
  rw [show gpw P Q G ((s + al) % Q) = gpw P Q G (s + al) from gpw_base_mod (Int.emod_emod _ _), ← gpw_add (by omega) (by omega) hG]
  rw [show gpw P Q y (-ch) = gpw P Q y (-((ch + be) % Q) + be) from gpw_base_mod (by
    rw [Int.add_emod, neg_mod, ← Int.add_emod]
    congr 1; omega), ← gpw_add (by omega) (by omega) hy]
  generalize gpw P Q G s = A
  generalize gpw P Q G al = B
  generalize gpw P Q y (-((ch + be) % Q)) = C
  generalize gpw P Q y be = D
  simp only [ml, mr]
  congr 1
  ac_rfl

/-- The error of Unblind. -/
def ubE (b1 b2 b3 b4 b5 : Bool) : Int := if b1 = true then (if b2 = true then (if b3 = true then (if b4 = true then (if b5 = true then 0 else 11) else 11) else 2) else 2) else 1
def unbE (P Q G y r al be cm ch s : Int) : Int := ubE (gvB P Q G) ([y, r, cm].all (conB P Q G)) ([s, al, be, ch].all (exB Q)) (cm == bcm P Q G y r al be) (rgtB P Q G y r ((ch + be) % Q) s)
theorem scal_four {Q a b c d : Int} (h : [a, b, c, d].all (exB Q) = true) : (0 ≤ a ∧ a < Q) ∧ (0 ≤ b ∧ b < Q) ∧ (0 ≤ c ∧ c < Q) ∧ (0 ≤ d ∧ d < Q) := by
  simp only [List.all_cons, List.all_nil, Bool.and_true, Bool.and_eq_true] at h
  exact ⟨exB_iff.1 h.1, exB_iff.1 h.2.1, exB_iff.1 h.2.2.1, exB_iff.1 h.2.2.2⟩
theorem con_three {P Q G a b c : Int} (h : [a, b, c].all (conB P Q G) = true) : elB P Q a = true ∧ elB P Q b = true ∧ elB P Q c = true := by
  simp [conB] at h
  exact ⟨h.1.2, h.2.1.2, h.2.2.2⟩
theorem con_two {P Q G a b : Int} (h : [a, b].all (conB P Q G) = true) : elB P Q a = true ∧ elB P Q b = true := by
  simp [conB] at h
  exact ⟨h.1.2, h.2.2⟩

theorem op_built {P : Program} {o : Oper} {a : Act} {w : World} {K : Act → World → Prop} {Q : Exit → Act → World → Prop} (t : TypeId) (parts : Array (Nat × Operand)) (ho : o.op = .build t parts)
    (d : Option Tmp) (hd : o.dst = d) (cells : Array Value) (hf : P.built t (parts.map fun (i, x) => (i, a.eval x)).toList = some cells) (h : K (a.put d (.agg cells)) w) : o.wp P a w K Q := by
  subst hd
  refine wp_build t parts ho (by rw [hf]; rfl) ?_
  rw [hf]
  exact h

theorem blk_two {w : World} {b : Nat} {t : TypeId} {p q : Value} (h : Blk w b t #[p, q]) (x y : Value) : Blk ((w.setCell ⟨b, 0, none⟩ x).setCell ⟨b, 1, none⟩ y) b t #[x, y] := (h.wrote 0 x).wrote 1 y

theorem bliUnblind_any (P Q G y r al be cm ch s : Int) (w : World) (hP : -9223372036854775808 ≤ P) (hQ : Q ≤ 9223372036854775807) (hT : Tab w) :
    Calls Tryz.prog 13 #[grp P Q G, .int .i64 y, .int .i64 r, .agg #[.int .i64 al, .int .i64 be, .int .i64 cm, .int .i64 ch], .int .i64 s] w fun e w' => e = .returned (.tuple #[.agg #[.int .i64 (orZ (unbE P Q G y r al be cm ch s) ch), .int .i64 (orZ (unbE P Q G y r al be cm ch s) ((s + al) % Q))], .int .i64 (unbE P Q G y r al be cm ch s)]) ∧ Up w w' := by
  have M1 := hid (fun w' (hU : Up w w') => Valid_any P Q G w' hP hQ (hT.up hU))
  have M2 := hid (fun w' (v : Value) (hU : Up w w') (hv : IntsAt w' v [y, r, cm]) => bliElements_any P Q G v [y, r, cm] w' hP hQ (hT.up hU) hv)
  have M3 := hid (fun w' (v : Value) (hv : IntsAt w' v [s, al, be, ch]) => bliScalars_any P Q G v [s, al, be, ch] w' hv)
  have M4 := hid (fun w' (hU : Up w w') (hg : gvB P Q G = true) (h2 : [y, r, cm].all (conB P Q G) = true) (h3 : [s, al, be, ch].all (exB Q) = true) => bliCommit_ok P Q G y r al be w' hP hQ (hT.up hU) hg (con_three h2).1 (con_three h2).2.1 (exB_iff.2 (scal_four h3).2.1) (exB_iff.2 (scal_four h3).2.2.1))
  have M5 := hid (fun w' (hg : gvB P Q G = true) (h3 : [s, al, be, ch].all (exB Q) = true) => bliAdd_ok P Q G ch be w' (scal_four h3).2.2.2.1 (scal_four h3).2.2.2.2 (scal_four h3).2.2.1.1 (scal_four h3).2.2.1.2 (gv_q hg).2)
  have M6 := hid (fun w' (hU : Up w w') => bliRight_any P Q G y r ((ch + be) % Q) s w' hP hQ (hT.up hU))
  have M7 := hid (fun w' (hg : gvB P Q G = true) (h3 : [s, al, be, ch].all (exB Q) = true) => bliAdd_ok P Q G s al w' (scal_four h3).1.1 (scal_four h3).1.2 (scal_four h3).2.1.1 (scal_four h3).2.1.2 (gv_q hg).2)
  unfold unbE
  generalize rgtB P Q G y r ((ch + be) % Q) s = b5 at *
  generalize (ch + be) % Q = V1 at *
  generalize (s + al) % Q = V2 at *
  generalize bcm P Q G y r al be = K at *
  generalize gvB P Q G = b1 at *
  generalize [y, r, cm].all (conB P Q G) = b2 at *
  generalize [s, al, be, ch].all (exB Q) = b3 at *
  obtain ⟨b4, hb4⟩ : ∃ b, (cm == K) = b := ⟨_, rfl⟩
  rw [hb4]
  have HK4 := hid hb4
  obtain ⟨o, ho⟩ : ∃ o, w.heap.size = o := ⟨_, rfl⟩
  have HO := hid ho
  obtain ⟨o1, ho1⟩ : ∃ o1, o + 1 = o1 := ⟨_, rfl⟩
  have HO1 := hid ho1
  obtain ⟨o2, ho2⟩ : ∃ o2, o1 + 1 = o2 := ⟨_, rfl⟩
  have HO2 := hid ho2
  have hlw : w.heap.size ≤ o2 := by omega
  clear hT ho ho1 ho2 hb4
  go_enter Tryz.func13, Tryz.ntmps13
  go_wp2_with fail
  refine (M1.out _ ((((Up.refl w).alloc _).alloc _).alloc _)).mono ?_
  rintro e w1 ⟨rfl, hU1⟩
  have HA1 := hid (((nums_three (w := w) (t := 23) HO.out).up (((Up.refl _).alloc _).alloc _)).up hU1)
  have HB1 := hid ((((Blk.new (g := o1) (t := 40) (cs := #[.int .i64 al, .int .i64 be, .int .i64 cm, .int .i64 ch]) (by have := HO.out; have := HO1.out; have := HO2.out; simp; omega) rfl).up ((Up.refl _).alloc _))).up hU1)
  have HZ1 := hid (((Blk.new (g := o2) (t := 36) (cs := #[.int .i64 0, .int .i64 0]) (by have := HO.out; have := HO1.out; have := HO2.out; simp; omega) rfl)).up hU1)
  have HU1 := hid (((((Up.refl w).alloc _).alloc _).alloc _).trans hU1)
  clear hU1
  rw [HO.out, HO1.out, HO2.out]
  obtain ⟨c0, c1, c2⟩ := HA1.out
  have u0 := HB1.out.val (i := 0) rfl
  have u1 := HB1.out.val (i := 1) rfl
  have u2 := HB1.out.val (i := 2) rfl
  have u3 := HB1.out.val (i := 3) rfl
  have z0 := HZ1.out.val (i := 0) rfl
  have z1 := HZ1.out.val (i := 1) rfl
  have zt0 := HZ1.out.thawed 0
  have zt1 := HZ1.out.thawed 1
  cases b1
  · have hb := blk_two HZ1.out (.int .i64 0) (.int .i64 0)
    go_wp2
    refine bodyPost_ret (results_row_tmp Tryz.results13 _ _ o2 36 _ (0, 0) _ (by rfl) hb Tryz.underlying36 rfl (by kernel_rfl)) rfl ⟨rfl, ((HU1.out.setCell hlw _).setCell hlw _)⟩
  go_wp2_with fail
  refine (M2.out _ _ (HU1.out.alloc _) (ints_three (by go_simp) (by go_simp) (by go_simp))).mono ?_
  rintro e w2 ⟨rfl, hU2⟩
  have hU2 := ((Up.refl w1).alloc _).trans hU2
  have HA2 := hid (HA1.out.up hU2)
  have HB2 := hid (HB1.out.up hU2)
  have HZ2 := hid (HZ1.out.up hU2)
  have HU2 := hid (HU1.out.trans hU2)
  clear hU2 HA1 HB1 HZ1 HU1 c0 c1 c2 u0 u1 u2 u3 z0 z1 zt0 zt1
  obtain ⟨c0, c1, c2⟩ := HA2.out
  have u0 := HB2.out.val (i := 0) rfl
  have u1 := HB2.out.val (i := 1) rfl
  have u2 := HB2.out.val (i := 2) rfl
  have u3 := HB2.out.val (i := 3) rfl
  have z0 := HZ2.out.val (i := 0) rfl
  have z1 := HZ2.out.val (i := 1) rfl
  have zt0 := HZ2.out.thawed 0
  have zt1 := HZ2.out.thawed 1
  cases b2
  · have hb := blk_two HZ2.out (.int .i64 0) (.int .i64 0)
    go_wp2
    refine bodyPost_ret (results_row_tmp Tryz.results13 _ _ o2 36 _ (0, 0) _ (by rfl) hb Tryz.underlying36 rfl (by kernel_rfl)) rfl ⟨rfl, ((HU2.out.setCell hlw _).setCell hlw _)⟩
  go_wp2_with fail
  refine (M3.out _ _ (ints_four (by go_simp) (by go_simp) (by go_simp) (by go_simp))).mono ?_
  rintro e w3 ⟨rfl, hU3⟩
  have hU3 := ((Up.refl w2).alloc _).trans hU3
  have HA3 := hid (HA2.out.up hU3)
  have HB3 := hid (HB2.out.up hU3)
  have HZ3 := hid (HZ2.out.up hU3)
  have HU3 := hid (HU2.out.trans hU3)
  clear hU3 HA2 HB2 HZ2 HU2 c0 c1 c2 u0 u1 u2 u3 z0 z1 zt0 zt1
  obtain ⟨c0, c1, c2⟩ := HA3.out
  have u0 := HB3.out.val (i := 0) rfl
  have u1 := HB3.out.val (i := 1) rfl
  have u2 := HB3.out.val (i := 2) rfl
  have u3 := HB3.out.val (i := 3) rfl
  have z0 := HZ3.out.val (i := 0) rfl
  have z1 := HZ3.out.val (i := 1) rfl
  have zt0 := HZ3.out.thawed 0
  have zt1 := HZ3.out.thawed 1
  cases b3
  · have hb := blk_two HZ3.out (.int .i64 0) (.int .i64 0)
    go_wp2
    refine bodyPost_ret (results_row_tmp Tryz.results13 _ _ o2 36 _ (0, 0) _ (by rfl) hb Tryz.underlying36 rfl (by kernel_rfl)) rfl ⟨rfl, ((HU3.out.setCell hlw _).setCell hlw _)⟩
  cases b4
  case false =>
    have d : (cm != K) = true := by rw [bne, HK4.out]; rfl
    have fc0 := cellF c0
    have fc1 := cellF c1
    have fc2 := cellF c2
    have fu0 := cellF u0
    have fu1 := cellF u1
    have fu2 := cellF u2
    have fu3 := cellF u3
    have fz0 := cellF z0
    have fz1 := cellF z1
    clear c0 c1 c2 u0 u1 u2 u3 z0 z1 zt0 zt1
    go_wp2_with fail
    refine wp_region_up (by kernel_rfl) (by kernel_rfl) ?_
    repeat (go_big_quiet_step ((first
        | (go_at_call 34; exact Calls.up_of (M4.out _ (HU3.out.trans (UpFrom.up _)) (by trivial) (by trivial) (by trivial))))))
    refine wpQuiet_nil ?_
    rintro w4 ⟨⟨_, hU4⟩, rfl⟩
    try dsimp only
    have HA4 := hid (HA3.out.up hU4)
    have HB4 := hid (HB3.out.up hU4)
    have HZ4 := hid (HZ3.out.up hU4)
    have HU4 := hid (HU3.out.trans hU4)
    clear hU4 HA3 HB3 HZ3 HU3 fc0 fc1 fc2 fu0 fu1 fu2 fu3 fz0 fz1
    obtain ⟨c0, c1, c2⟩ := HA4.out
    have u0 := HB4.out.val (i := 0) rfl
    have u1 := HB4.out.val (i := 1) rfl
    have u2 := HB4.out.val (i := 2) rfl
    have u3 := HB4.out.val (i := 3) rfl
    have z0 := HZ4.out.val (i := 0) rfl
    have z1 := HZ4.out.val (i := 1) rfl
    have zt0 := HZ4.out.thawed 0
    have zt1 := HZ4.out.thawed 1
    have hb := blk_two HZ4.out (.int .i64 0) (.int .i64 0)
    go_wp2
    refine bodyPost_ret (results_row_tmp Tryz.results13 _ _ o2 36 _ (0, 0) _ (by rfl) hb Tryz.underlying36 rfl (by kernel_rfl)) rfl ⟨rfl, ((HU4.out.setCell hlw _).setCell hlw _)⟩
  have d : (cm != K) = false := by rw [bne, HK4.out]; rfl
  have fc0 := cellF c0
  have fc1 := cellF c1
  have fc2 := cellF c2
  have fu0 := cellF u0
  have fu1 := cellF u1
  have fu2 := cellF u2
  have fu3 := cellF u3
  have fz0 := cellF z0
  have fz1 := cellF z1
  clear c0 c1 c2 u0 u1 u2 u3 z0 z1 zt0 zt1
  go_wp2_with fail
  refine wp_region_up (by kernel_rfl) (by kernel_rfl) ?_
  repeat (go_big_quiet_step ((first
      | (go_at_call 34; exact Calls.up_of (M4.out _ (HU3.out.trans (UpFrom.up _)) (by trivial) (by trivial) (by trivial)))
      | (go_at_call 36; exact Calls.up_of (M5.out _ (by trivial) (by trivial)))
      | (go_at_call 38; exact Calls.up_of (M6.out _ (HU3.out.trans (UpFrom.up _)))))))
  refine wpQuiet_nil ?_
  rintro w4 ⟨⟨_, hU4⟩, rfl⟩
  try dsimp only
  have HA4 := hid (HA3.out.up hU4)
  have HB4 := hid (HB3.out.up hU4)
  have HZ4 := hid (HZ3.out.up hU4)
  have HU4 := hid (HU3.out.trans hU4)
  clear hU4 HA3 HB3 HZ3 HU3 fc0 fc1 fc2 fu0 fu1 fu2 fu3 fz0 fz1
  obtain ⟨c0, c1, c2⟩ := HA4.out
  have u0 := HB4.out.val (i := 0) rfl
  have u1 := HB4.out.val (i := 1) rfl
  have u2 := HB4.out.val (i := 2) rfl
  have u3 := HB4.out.val (i := 3) rfl
  have z0 := HZ4.out.val (i := 0) rfl
  have z1 := HZ4.out.val (i := 1) rfl
  have zt0 := HZ4.out.thawed 0
  have zt1 := HZ4.out.thawed 1
  cases b5
  · have hb := blk_two HZ4.out (.int .i64 0) (.int .i64 0)
    go_wp2
    refine bodyPost_ret (results_row_tmp Tryz.results13 _ _ o2 36 _ (0, 0) _ (by rfl) hb Tryz.underlying36 rfl (by kernel_rfl)) rfl ⟨rfl, ((HU4.out.setCell hlw _).setCell hlw _)⟩
  go_wp2_with fail
  clear c0 c1 c2 u0 u1 u2 u3 z0 z1 zt0 zt1
  refine region_E (fun w' => GrpAt w' o P Q G ∧ Blk w' o1 40 #[.int .i64 al, .int .i64 be, .int .i64 cm, .int .i64 ch]) 9 (by kernel_rfl) ⟨HA4.out.up (Up.refl _).drew, HB4.out.up (Up.refl _).drew⟩ fun hS => ?_
  have hZ0 := HZ4.out.up (Up.refl w4).drew
  have hU0 := HU4.out.drew
  generalize w4.drew = v0 at *
  refine anyE_take (i := 0) (v := ?_) 67 rfl rfl (by kernel_rfl) (by kernel_rfl) (by decide) (fun _ _ _ h => h) (by kernel_rfl) (by kernel_rfl) (.inl ⟨by rfl, fun u hu => ?_⟩) hS ?_
  rotate_left
  · (obtain ⟨⟨q0, q1, q2⟩, ub⟩ := hu; have u0 := ub.val (i := 0) rfl; have u3 := ub.val (i := 3) rfl; go_simp; first | done | with_reducible rfl)
  try simp only [Act.put, List.setIfInBounds_toArray, List.set_cons_zero, List.set_cons_succ]
  refine anyE_take (i := 1) (v := ?_) 68 rfl rfl (by kernel_rfl) (by kernel_rfl) (by decide) (fun _ _ _ h => h) (by kernel_rfl) (by kernel_rfl) (.inl ⟨by rfl, fun u hu => ?_⟩) hS ?_
  rotate_left
  · (obtain ⟨⟨q0, q1, q2⟩, ub⟩ := hu; have u0 := ub.val (i := 0) rfl; have u3 := ub.val (i := 3) rfl; go_simp; first | done | with_reducible rfl)
  try simp only [Act.put, List.setIfInBounds_toArray, List.set_cons_zero, List.set_cons_succ]
  refine anyE_take (i := 2) (v := ?_) 69 rfl rfl (by kernel_rfl) (by kernel_rfl) (by decide) (fun _ _ _ h => h) (by kernel_rfl) (by kernel_rfl) (.inl ⟨by rfl, fun u hu => ?_⟩) hS ?_
  rotate_left
  · (obtain ⟨⟨q0, q1, q2⟩, ub⟩ := hu; have u0 := ub.val (i := 0) rfl; have u3 := ub.val (i := 3) rfl; go_simp; first | done | with_reducible rfl)
  try simp only [Act.put, List.setIfInBounds_toArray, List.set_cons_zero, List.set_cons_succ]
  refine anyE_take (i := 3) (v := ?_) 70 rfl rfl (by kernel_rfl) (by kernel_rfl) (by decide) (fun _ _ _ h => h) (by kernel_rfl) (by kernel_rfl) (.inl ⟨by rfl, fun u hu => ?_⟩) hS ?_
  rotate_left
  · (obtain ⟨⟨q0, q1, q2⟩, ub⟩ := hu; have u0 := ub.val (i := 0) rfl; have u3 := ub.val (i := 3) rfl; go_simp; first | done | with_reducible rfl)
  try simp only [Act.put, List.setIfInBounds_toArray, List.set_cons_zero, List.set_cons_succ]
  refine anyE_take (i := 4) (v := ?_) 71 rfl rfl (by kernel_rfl) (by kernel_rfl) (by decide) (fun _ _ _ h => h) (by kernel_rfl) (by kernel_rfl) (.inl ⟨by rfl, fun u hu => ?_⟩) hS ?_
  rotate_left
  · (obtain ⟨⟨q0, q1, q2⟩, ub⟩ := hu; have u0 := ub.val (i := 0) rfl; have u3 := ub.val (i := 3) rfl; go_simp; first | done | with_reducible rfl)
  try simp only [Act.put, List.setIfInBounds_toArray, List.set_cons_zero, List.set_cons_succ]
  refine anyE_take (i := 5) (v := ?_) 72 rfl rfl (by kernel_rfl) (by kernel_rfl) (by decide) (fun _ _ _ h => h) (by kernel_rfl) (by kernel_rfl) (.inl ⟨by rfl, fun u hu => ?_⟩) hS ?_
  rotate_left
  · (obtain ⟨⟨q0, q1, q2⟩, ub⟩ := hu; have u0 := ub.val (i := 0) rfl; have u3 := ub.val (i := 3) rfl; go_simp; first | done | with_reducible rfl)
  try simp only [Act.put, List.setIfInBounds_toArray, List.set_cons_zero, List.set_cons_succ]
  refine anyE_one (i := 6) rfl (by kernel_rfl) rfl (fun K hK => ?_)
  go_simp
  refine (M7.out _ (by trivial) (by trivial)).mono ?_
  rintro e v1 ⟨rfl, hup⟩
  dsimp only
  have hS1 : GrpAt v1 o P Q G ∧ Blk v1 o1 40 #[.int .i64 al, .int .i64 be, .int .i64 cm, .int .i64 ch] := ⟨hS.1.up hup, hS.2.up hup⟩
  have hZ1 := hZ0.up hup
  have hU1 := hU0.trans hup
  refine hK.out _ _ (.inr hS1) ?_
  clear hK hup hS hZ0 hU0
  try simp only [Act.put, List.setIfInBounds_toArray, List.set_cons_zero, List.set_cons_succ]
  refine anyE_one (i := 7) rfl (by kernel_rfl) rfl (fun K hK => ?_)
  refine op_built 36 _ rfl _ rfl #[.int .i64 ch, .int .i64 V2] (by kernel_rfl) ?_
  refine hK.out _ _ (.inr hS1) ?_
  clear hK
  try simp only [Act.put, List.setIfInBounds_toArray]
  refine anyE_one (i := 8) rfl (by kernel_rfl) rfl (fun K hK => ?_)
  refine op_store_row 36 _ _ rfl rfl o2 #[.int .i64 ch, .int .i64 V2] rfl rfl 36 #[.int .i64 0, .int .i64 0] hZ1 (by kernel_rfl) rfl (by first | kernel_rfl | simp [Value.oneCell']) ?_
  have hS2 : GrpAt (v1.setRow o2 #[.int .i64 ch, .int .i64 V2]) o P Q G ∧ Blk (v1.setRow o2 #[.int .i64 ch, .int .i64 V2]) o1 40 #[.int .i64 al, .int .i64 be, .int .i64 cm, .int .i64 ch] := ⟨grp_row hS1.1 (by have := HO1.out; have := HO2.out; omega), Blk.rowApart hS1.2 (by have := HO2.out; omega) _⟩
  refine hK.out _ _ (.inr hS2) ?_
  clear hK
  try simp only [Act.put, List.setIfInBounds_toArray, List.set_cons_zero, List.set_cons_succ]
  refine anyE_one (i := 9) rfl (by kernel_rfl) rfl (fun K hK => ?_)
  go_simp
  refine hK.out _ _ (.inl rfl) (anyE_done (by kernel_rfl) ?_ _)
  clear hK
  go_wp2
  refine bodyPost_ret (results_row_tmp Tryz.results13 _ _ o2 36 _ (0, 0) _ (by rfl) (hZ1.row _) Tryz.underlying36 rfl (by kernel_rfl)) rfl ⟨rfl, hU1.setRow hlw _⟩
end Go.Proofs.YtoaomjdpiealfaaGreatDoor
namespace Go.Proofs.YtoaomjdpiealfaaGreatDoor
open Go.RowKit Go.Sp
set_option maxHeartbeats 4000000
set_option maxRecDepth 20000

def cntE (E Q : Int) : Int := if E = 0 then (if Q > 113 then 9 else 0) else E
def cntN (a b i j : Int) : Int := if a < i ∨ (a = i ∧ b < j) then 1 else 0
theorem cntN_start {a b : Int} (h : 0 ≤ a) : cntN a b 0 0 = 0 ∨ (a = 0 ∧ b < 0) := by unfold cntN; omega
theorem cntN_same {a b i j : Int} (h : ¬ (i = a ∧ j = b)) : cntN a b i (j + 1) = cntN a b i j := by unfold cntN; congr 1; ext; omega
theorem cntN_hit {a b : Int} : cntN a b a b = 0 ∧ cntN a b a (b + 1) = 1 := by
  unfold cntN
  exact ⟨if_neg (by omega), if_pos (by omega)⟩
theorem cntN_row {a b i Q : Int} (h : b < Q) (h0 : 0 ≤ b) : cntN a b i Q = cntN a b (i + 1) 0 := by unfold cntN; congr 1; ext; omega
theorem cntN_zero {a b : Int} (h : 0 ≤ a) (h0 : 0 ≤ b) : cntN a b 0 0 = 0 := by unfold cntN; exact if_neg (by omega)
theorem cntN_end {a b Q : Int} (h : a < Q) : cntN a b Q 0 = 1 := by unfold cntN; exact if_pos (by omega)
theorem mod_shift {Q x y i : Int} (_hQ : 1 ≤ Q) (y0 : 0 ≤ y) (y1 : y < Q) (i0 : 0 ≤ i) (i1 : i < Q) : (x + i) % Q = y ↔ i = (y - x) % Q := by
  constructor
  · intro h
    rw [← h, Int.sub_emod, Int.emod_emod, ← Int.sub_emod, show x + i - x = i by omega]
    exact (Int.emod_eq_of_lt i0 i1).symm
  · intro h
    exact mod_add_sub h y0 y1

theorem bliCount_any (P Q G y r c s : Int) (v : Value) (m : List Int) (sc ss : Int) (w : World) (hP : -9223372036854775808 ≤ P) (hQ : Q ≤ 9223372036854775807) (hT : Tab w) (hS : TabS w) (hv : SeqAt .u8 w v m) (hm : ∀ x ∈ m, 0 ≤ x ∧ x ≤ 255) :
    Calls Tryz.prog 14 #[grp P Q G, .int .i64 y, .agg #[.int .i64 r, .int .i64 c, .int .i64 s], v, .agg #[.int .i64 sc, .int .i64 ss]] w fun e w' => e = .returned (.tuple #[.int .i64 (orZ (cntE (gvnE P Q G y r c s m sc ss) Q) 1), .int .i64 (cntE (gvnE P Q G y r c s m sc ss) Q)]) ∧ Up w w' := by
  have M1 := hid (fun w' (hU : Up w w') => bliGiven_any P Q G y r c s v m sc ss w' hP hQ (hT.up hU) (hS.up hU) (hv.up hU) hm)
  have HL := hid (fun (h : gvnE P Q G y r c s m sc ss = 0) => gvnE_zero h)
  obtain ⟨va, vc, rfl, _, _⟩ := hv.shape
  obtain ⟨n, hn⟩ : ∃ n, m.length = n := ⟨_, rfl⟩
  have HCh := hid (fun w' (hU : Up w w') (K : Int) => sigChallenge_any P Q G K y _ m w' hP hQ (hT.up hU) (hS.up hU) (hv.up hU) hm)
  have HCo := hid (fun w' (hU : Up w w') (al be : Int) hg hy hr ha hb => bliCommit_ok P Q G y r al be w' hP hQ (hT.up hU) hg hy hr ha hb)
  rw [hn] at M1 ⊢
  obtain ⟨o, ho⟩ : ∃ o, w.heap.size = o := ⟨_, rfl⟩
  have HO := hid ho
  obtain ⟨o1, ho1⟩ : ∃ o1, o + 1 = o1 := ⟨_, rfl⟩
  have HO1 := hid ho1
  obtain ⟨o2, ho2⟩ : ∃ o2, o1 + 1 = o2 := ⟨_, rfl⟩
  have HO2 := hid ho2
  generalize gvnE P Q G y r c s m sc ss = E at *
  clear hT hS hv hm ho ho1 ho2
  go_enter Tryz.func14, Tryz.ntmps14
  go_wp2_with fail
  refine (M1.out _ ((((Up.refl w).alloc _).alloc _).alloc _)).mono ?_
  rintro e w1 ⟨rfl, hU1⟩
  have HA1 := hid (((nums_three (w := w) (t := 23) HO.out).up (((Up.refl _).alloc _).alloc _)).up hU1)
  have HV1 := hid (((nums_three (r := o1) (t := 33) (by have := HO.out; have := HO1.out; have := HO2.out; simp; omega)).up ((Up.refl _).alloc _)).up hU1)
  have HS1 := hid (((nums_two (r := o2) (t := 36) (x := sc) (y := ss) (by have := HO.out; have := HO1.out; have := HO2.out; simp; omega))).up hU1)
  have HU1 := hid (((((Up.refl w).alloc _).alloc _).alloc _).trans hU1)
  clear hU1
  rw [HO.out, HO1.out, HO2.out]
  obtain ⟨c0, c1, c2⟩ := HA1.out
  obtain ⟨v0, v1, v2⟩ := HV1.out
  obtain ⟨s0, s1⟩ := HS1.out
  by_cases hE : E = 0
  case neg =>
    have d : (E != 0) = true := by simpa using hE
    have Hz1 : Hid (cntE E Q = E) := hid (by rw [cntE, if_neg hE])
    have Hz2 : Hid (orZ E 1 = 0) := hid (by rw [orZ, if_neg hE])
    clear hE
    go_wp2
    go_ret2
    exact ⟨by rw [Hz1.out, Hz2.out]; rfl, HU1.out⟩
  obtain ⟨hg, hc, hs⟩ := HL.out hE
  subst hE
  by_cases hq : Q > 113
  case pos =>
    have d : decide (Q > 113) = true := by simpa using hq
    have Hz1 : Hid (cntE 0 Q = 9) := hid (by rw [cntE, if_pos rfl, if_pos hq])
    clear hq hg hc hs
    go_wp2
    go_ret2
    exact ⟨by rw [Hz1.out]; rfl, HU1.out⟩
  have d : decide (Q > 113) = false := by simpa using hq
  have Hz1 : Hid (cntE 0 Q = 0) := hid (by rw [cntE, if_pos rfl, if_neg hq])
  obtain ⟨_, hy, hr, hc1, hs1, hfr⟩ := chkB_ok hc
  obtain ⟨_, _, hsc, hss, hml, hsig⟩ := verS_ok hs
  obtain ⟨q2, q3⟩ := gv_q hg
  obtain ⟨ec0, ec1⟩ := exB_iff.1 hc1
  obtain ⟨es0, es1⟩ := exB_iff.1 hs1
  obtain ⟨fc0, fc1⟩ := exB_iff.1 hsc
  obtain ⟨fs0, fs1⟩ := exB_iff.1 hss
  obtain ⟨a0, ha0⟩ : ∃ a0, (ss - s) % Q = a0 := ⟨_, rfl⟩
  obtain ⟨b0, hb0⟩ : ∃ b0, (c - sc) % Q = b0 := ⟨_, rfl⟩
  have ha1 : 0 ≤ a0 := by rw [← ha0]; exact Int.emod_nonneg _ (by omega)
  have ha2 : a0 < Q := by rw [← ha0]; exact Int.emod_lt_of_pos _ (by omega)
  have hb1 : 0 ≤ b0 := by rw [← hb0]; exact Int.emod_nonneg _ (by omega)
  have hb2 : b0 < Q := by rw [← hb0]; exact Int.emod_lt_of_pos _ (by omega)
  have HI := hid (fun (i : Int) (i0 : 0 ≤ i) (i1 : i < Q) => ha0 ▸ mod_shift (x := s) (y := ss) (show 1 ≤ Q by omega) fs0 fs1 i0 i1)
  have HJ := hid (fun (i : Int) (i0 : 0 ≤ i) (i1 : i < Q) => hb0 ▸ mod_shift (x := sc) (y := c) (show 1 ≤ Q by omega) ec0 ec1 i0 i1)
  have hvc : (sc + b0) % Q = c := mod_add_sub hb0.symm ec0 ec1
  have hvs : (s + a0) % Q = ss := mod_add_sub ha0.symm fs0 fs1
  have hK : frgV P Q G y sc ss = bcm P Q G y r a0 b0 := by
    have h := unblind_fits (al := a0) (be := b0) (ch := sc) (s := s) hg hy hr hs1 (by rw [hvc]; exact hfr)
    rwa [hvs] at h
  obtain ⟨K, hKe⟩ : ∃ K, bcm P Q G y r a0 b0 = K := ⟨_, rfl⟩
  have HCc := hid (fun w' (hU : Up w w') (al be : Int) (h1 : al = a0) (h2 : be = b0) => (by
    subst h1 h2
    rw [← hKe]
    exact HCo.out w' hU _ _ hg hy hr (exB_iff.2 ⟨ha1, ha2⟩) (exB_iff.2 ⟨hb1, hb2⟩) : Calls Tryz.prog 34 #[grp P Q G, .int .i64 y, .int .i64 r, .int .i64 al, .int .i64 be] w' fun e w'' => e = .returned (.int .i64 K) ∧ Up w' w''))
  have HCd := hid (fun w' (hU : Up w w') => HCh.out w' hU K)
  rw [show sigE P Q G K y m.length = 0 by
    unfold sigE
    rw [if_pos (chkI_ok hg (by rw [← hKe]; simp [hy, bcm_el hg hy hr])), if_pos hml], show sigC P Q G K y m = sc by rw [← hKe, ← hK]; exact hsig, show orZ 0 sc = sc from rfl] at HCd
  have HAd := hid (fun (i : Int) (i0 : 0 ≤ i) (i1 : i < Q) w' => bliAdd_ok P Q G s i w' es0 es1 i0 i1 q3)
  have HBd := hid (fun (i : Int) (i0 : 0 ≤ i) (i1 : i < Q) w' => bliAdd_ok P Q G sc i w' fc0 fc1 i0 i1 q3)
  rw [hn] at HCd
  clear hg hc hs hy hr hc1 hs1 hfr hsc hss hml hsig ec0 ec1 es0 es1 fc0 fc1 fs0 fs1 ha0 hb0 hvc hvs hK hKe HCo HCh hn HL
  obtain ⟨q, rfl⟩ : ∃ q : Nat, Q = q := ⟨Q.toNat, by omega⟩
  go_wp2_with fail
  go_loopw [13, 32] (fun vn vi wr => ∃ (i : Nat) (N : Int), i ≤ q ∧ vi = .int .i64 i ∧ vn = .int .i64 N ∧ Hid (N = cntN a0 b0 i 0) ∧ Hid (Up w wr) ∧ Hid (GrpAt wr o P q G) ∧ Hid (GrpAt wr o1 r c s) ∧ Hid (SigAt wr o2 sc ss)) (fun vn vi _ => q - (intOf vi).toNat)
  case atStart => exact ⟨0, 0, by omega, rfl, rfl, hid (cntN_zero ha1 hb1).symm, HU1, HA1, HV1, HS1⟩
  case round =>
    clear HU1 HA1 HV1 HS1 c0 c1 c2 v0 v1 v2 s0 s1
    obtain ⟨i, N, hi, rfl, rfl, HN, HU, HA, HV, HSg⟩ := hrel
    obtain ⟨c0, c1, c2⟩ := HA.out
    by_cases hl : i < q
    · go_wp2_with fail
      go_loopw [13, 37] (fun vn vj wr => ∃ (j : Nat) (N : Int), j ≤ q ∧ vj = .int .i64 j ∧ vn = .int .i64 N ∧ Hid (N = cntN a0 b0 i j) ∧ Hid (Up w wr) ∧ Hid (GrpAt wr o P q G) ∧ Hid (GrpAt wr o1 r c s) ∧ Hid (SigAt wr o2 sc ss)) (fun vn vj _ => q - (intOf vj).toNat)
      case atStart => exact ⟨0, N, by omega, rfl, rfl, HN, HU, HA, HV, HSg⟩
      case round =>
        clear HU HA HV HSg c0 c1 c2 HN
        obtain ⟨j, N, hj, rfl, rfl, HN, HU0, HA0, HV0, HS0⟩ := hrel
        obtain ⟨c0, c1, c2⟩ := HA0.out
        obtain ⟨v0, v1, v2⟩ := HV0.out
        obtain ⟨s0, s1⟩ := HS0.out
        by_cases hlj : j < q
        · have HX := hid (HBd.out j (by omega) (by omega))
          have HY := hid (HAd.out i (by omega) (by omega))
          have HJj := HJ.out j (by omega) (by omega)
          have HIi := HI.out i (by omega) (by omega)
          obtain ⟨X, hX⟩ : ∃ X, (sc + (j : Int)) % (q : Int) = X := ⟨_, rfl⟩
          obtain ⟨Y, hY⟩ : ∃ Y, (s + (i : Int)) % (q : Int) = Y := ⟨_, rfl⟩
          rw [hX] at HX HJj
          rw [hY] at HY HIi
          clear hX hY
          by_cases hx : X = c
          case neg =>
            have d1 : (X != c) = true := by simpa using hx
            have hne : ¬ ((i : Int) = a0 ∧ (j : Int) = b0) := fun h => hx (HJj.2 h.2)
            have HN2 : Hid (N = cntN a0 b0 i ((j + 1 : Nat) : Int)) := hid (by rw [show (((j + 1 : Nat)) : Int) = (j : Int) + 1 by omega, cntN_same hne]; exact HN.out)
            clear hx hne HJj HIi HN
            have fc0 := cellF c0
            have fc1 := cellF c1
            have fc2 := cellF c2
            have fv0 := cellF v0
            have fv1 := cellF v1
            have fv2 := cellF v2
            have fs0 := cellF s0
            have fs1 := cellF s1
            clear c0 c1 c2 v0 v1 v2 s0 s1
            go_wp2_with fail
            refine wp_region_up (by kernel_rfl) (by kernel_rfl) ?_
            repeat (go_big_quiet_step ((first
                | (go_at_call 36; exact Calls.up_of (HX.out _)))))
            refine wpQuiet_nil ?_
            rintro w1 ⟨⟨_, hU1⟩, rfl⟩
            try dsimp only
            have HA1 := hid (HA0.out.up hU1)
            have HV1 := hid (HV0.out.up hU1)
            have HS1 := hid (HS0.out.up hU1)
            have HU1 := hid (HU0.out.trans hU1)
            clear hU1 HA0 HV0 HS0 HU0 fc0 fc1 fc2 fv0 fv1 fv2 fs0 fs1
            go_wp2_with fail
            go_roundw
            case rel => exact ⟨j + 1, N, by omega, by go_num, rfl, HN2, HU1, HA1, HV1, HS1⟩
            case measure => simp [intOf]; omega
          have d1 : (X != c) = false := by simpa using hx
          by_cases hy : Y = ss
          case neg =>
            have d2 : (Y != ss) = true := by simpa using hy
            have hne : ¬ ((i : Int) = a0 ∧ (j : Int) = b0) := fun h => hy (HIi.2 h.1)
            have HN2 : Hid (N = cntN a0 b0 i ((j + 1 : Nat) : Int)) := hid (by rw [show (((j + 1 : Nat)) : Int) = (j : Int) + 1 by omega, cntN_same hne]; exact HN.out)
            clear hx hy hne HJj HIi HN
            have fc0 := cellF c0
            have fc1 := cellF c1
            have fc2 := cellF c2
            have fv0 := cellF v0
            have fv1 := cellF v1
            have fv2 := cellF v2
            have fs0 := cellF s0
            have fs1 := cellF s1
            clear c0 c1 c2 v0 v1 v2 s0 s1
            go_wp2_with fail
            refine wp_region_up (by kernel_rfl) (by kernel_rfl) ?_
            repeat (go_big_quiet_step ((first
                | (go_at_call 36; first
                  | ((with_reducible (show Calls _ _ #[_, .int .i64 sc, _] _ _)); exact Calls.up_of (HX.out _))
                  | ((with_reducible (show Calls _ _ #[_, .int .i64 s, _] _ _)); exact Calls.up_of (HY.out _))))))
            refine wpQuiet_nil ?_
            rintro w1 ⟨⟨_, hU1⟩, rfl⟩
            try dsimp only
            have HA1 := hid (HA0.out.up hU1)
            have HV1 := hid (HV0.out.up hU1)
            have HS1 := hid (HS0.out.up hU1)
            have HU1 := hid (HU0.out.trans hU1)
            clear hU1 HA0 HV0 HS0 HU0 fc0 fc1 fc2 fv0 fv1 fv2 fs0 fs1
            go_wp2_with fail
            go_roundw
            case rel => exact ⟨j + 1, N, by omega, by go_num, rfl, HN2, HU1, HA1, HV1, HS1⟩
            case measure => simp [intOf]; omega
          have d2 : (Y != ss) = false := by simpa using hy
          have hja := HJj.1 hx
          have hia := HIi.1 hy
          have HN0 : N = 0 := by rw [HN.out, hja, hia]; exact cntN_hit.1
          have HN2 : Hid ((1 : Int) = cntN a0 b0 i ((j + 1 : Nat) : Int)) := hid (by rw [show (((j + 1 : Nat)) : Int) = (j : Int) + 1 by omega, hja, hia]; exact cntN_hit.2.symm)
          have HCe := hid (fun w' hU => HCc.out w' hU i j hia hja)
          subst HN0
          have e1 : (sc == sc) = true := by simp
          clear hx hy HJj HIi hja hia HN
          have fc0 := cellF c0
          have fc1 := cellF c1
          have fc2 := cellF c2
          have fv0 := cellF v0
          have fv1 := cellF v1
          have fv2 := cellF v2
          have fs0 := cellF s0
          have fs1 := cellF s1
          clear c0 c1 c2 v0 v1 v2 s0 s1
          go_wp2_with fail
          refine wp_region_up (by kernel_rfl) (by kernel_rfl) ?_
          repeat (go_big_quiet_step ((first
              | (go_at_call 36; first
                | ((with_reducible (show Calls _ _ #[_, .int .i64 sc, _] _ _)); exact Calls.up_of (HX.out _))
                | ((with_reducible (show Calls _ _ #[_, .int .i64 s, _] _ _)); exact Calls.up_of (HY.out _))))))
          refine wpQuiet_nil ?_
          rintro w1 ⟨⟨_, hU1⟩, rfl⟩
          try dsimp only
          have HA1 := hid (HA0.out.up hU1)
          have HV1 := hid (HV0.out.up hU1)
          have HS1 := hid (HS0.out.up hU1)
          have HU1 := hid (HU0.out.trans hU1)
          clear hU1 HA0 HV0 HS0 HU0 fc0 fc1 fc2 fv0 fv1 fv2 fs0 fs1
          obtain ⟨c0, c1, c2⟩ := HA1.out
          obtain ⟨v0, v1, v2⟩ := HV1.out
          obtain ⟨s0, s1⟩ := HS1.out
          have fc0 := cellF c0
          have fc1 := cellF c1
          have fc2 := cellF c2
          have fv0 := cellF v0
          have fv1 := cellF v1
          have fv2 := cellF v2
          have fs0 := cellF s0
          have fs1 := cellF s1
          clear c0 c1 c2 v0 v1 v2 s0 s1
          go_wp2_with fail
          refine wp_region_up (by kernel_rfl) (by kernel_rfl) ?_
          repeat (go_big_quiet_step ((first
              | (go_at_call 34; exact Calls.up_of (HCe.out _ (HU1.out.trans (UpFrom.up _))))
              | (go_at_call 35; exact Calls.up_of (HCd.out _ (HU1.out.trans (UpFrom.up _)))))))
          refine wpQuiet_nil ?_
          rintro w2 ⟨⟨_, hU2⟩, rfl⟩
          try dsimp only
          have HA2 := hid (HA1.out.up hU2)
          have HV2 := hid (HV1.out.up hU2)
          have HS2 := hid (HS1.out.up hU2)
          have HU2 := hid (HU1.out.trans hU2)
          clear hU2 HA1 HV1 HS1 HU1 fc0 fc1 fc2 fv0 fv1 fv2 fs0 fs1
          obtain ⟨c0, c1, c2⟩ := HA2.out
          obtain ⟨v0, v1, v2⟩ := HV2.out
          obtain ⟨s0, s1⟩ := HS2.out
          go_wp2_with fail
          go_roundw
          case rel => exact ⟨j + 1, 1, by omega, by go_num, by go_num, HN2, HU2, HA2, HV2, HS2⟩
          case measure => simp [intOf]; omega
        · obtain rfl : j = q := by omega
          have HN2 : Hid (N = cntN a0 b0 ((i + 1 : Nat) : Int) 0) := hid (by rw [show (((i + 1 : Nat)) : Int) = (i : Int) + 1 by omega, ← cntN_row hb2 hb1]; exact HN.out)
          clear HN
          go_wp2_with fail
          go_roundw
          case rel => exact ⟨i + 1, N, by omega, by go_num, rfl, HN2, HU0, HA0, HV0, HS0⟩
          case measure => simp [intOf]; omega
    · obtain rfl : i = q := by omega
      have hN : N = 1 := by rw [HN.out]; exact cntN_end ha2
      subst hN
      go_wp2
      go_ret2
      exact ⟨by rw [Hz1.out]; rfl, HU.out⟩
end Go.Proofs.YtoaomjdpiealfaaGreatDoor
namespace Go.Proofs.YtoaomjdpiealfaaGreatDoor
open Go.RowKit Go.Sp
set_option maxHeartbeats 4000000
set_option maxRecDepth 20000

def blE (b1 b2 b3 b4 : Bool) : Int := if b1 = true then (if b2 = true then (if b3 = true then (if b4 = true then 0 else 5) else 2) else 2) else 1
def bldE (P Q G y r al be : Int) (n : Nat) : Int := blE (gvB P Q G) ([y, r].all (conB P Q G)) ([al, be].all (exB Q)) (decide (n ≤ 16384))
abbrev buser (a b c d : Int) : Value := .agg #[.int .i64 a, .int .i64 b, .int .i64 c, .int .i64 d]
theorem bliBlind_any (P Q G y r al be : Int) (v : Value) (m : List Int) (w : World) (hP : -9223372036854775808 ≤ P) (hQ : Q ≤ 9223372036854775807) (hT : Tab w) (hS : TabS w) (hv : SeqAt .u8 w v m) (hm : ∀ x ∈ m, 0 ≤ x ∧ x ≤ 255) :
    Calls Tryz.prog 11 #[grp P Q G, .int .i64 y, .int .i64 r, v, .int .i64 al, .int .i64 be] w fun e w' => e = .returned (.tuple #[buser (orZ (bldE P Q G y r al be m.length) al) (orZ (bldE P Q G y r al be m.length) be) (orZ (bldE P Q G y r al be m.length) (bcm P Q G y r al be)) (orZ (bldE P Q G y r al be m.length) (sigC P Q G (bcm P Q G y r al be) y m)), .int .i64 (orZ (bldE P Q G y r al be m.length) ((sigC P Q G (bcm P Q G y r al be) y m + be) % Q)), .int .i64 (bldE P Q G y r al be m.length)]) ∧ Up w w' := by
  have M1 := hid (fun w' (hU : Up w w') => Valid_any P Q G w' hP hQ (hT.up hU))
  have M2 := hid (fun w' (v : Value) (hU : Up w w') (hv : IntsAt w' v [y, r]) => bliElements_any P Q G v [y, r] w' hP hQ (hT.up hU) hv)
  have M3 := hid (fun w' (v : Value) (hv : IntsAt w' v [al, be]) => bliScalars_any P Q G v [al, be] w' hv)
  have M4 := hid (fun w' (hU : Up w w') (hg : gvB P Q G = true) (h2 : [y, r].all (conB P Q G) = true) (h3 : [al, be].all (exB Q) = true) => bliCommit_ok P Q G y r al be w' hP hQ (hT.up hU) hg (con_two h2).1 (con_two h2).2 (exB_iff.2 (scal_two h3).1) (exB_iff.2 (scal_two h3).2))
  have M5 := hid (fun w' (hU : Up w w') (hg : gvB P Q G = true) (h2 : [y, r].all (conB P Q G) = true) => (by
    have h := sigChallenge_any P Q G (bcm P Q G y r al be) y v m w' hP hQ (hT.up hU) (hS.up hU) (hv.up hU) hm
    rw [show sigE P Q G (bcm P Q G y r al be) y m.length = if decide (m.length ≤ 16384) = true then 0 else 5 by
      unfold sigE
      rw [if_pos (chkI_ok hg (by simp [bcm_el hg (con_two h2).1 (con_two h2).2, (con_two h2).1]))]
      simp only [decide_eq_true_eq]] at h
    exact h : Calls Tryz.prog 35 #[grp P Q G, .int .i64 (bcm P Q G y r al be), .int .i64 y, v] w' fun e w'' => e = .returned (.tuple #[.int .i64 (orZ (if decide (m.length ≤ 16384) = true then 0 else 5) (sigC P Q G (bcm P Q G y r al be) y m)), .int .i64 (if decide (m.length ≤ 16384) = true then 0 else 5)]) ∧ Up w' w''))
  have M6 := hid (fun w' (hg : gvB P Q G = true) (h3 : [al, be].all (exB Q) = true) => (by
    have hr := sigC_range P G (bcm P Q G y r al be) y m (Q := Q) (by have := gv_q hg; omega)
    exact bliAdd_ok P Q G (sigC P Q G (bcm P Q G y r al be) y m) be w' hr.1 hr.2 (scal_two h3).2.1 (scal_two h3).2.2 (gv_q hg).2 : Calls Tryz.prog 36 #[grp P Q G, .int .i64 (sigC P Q G (bcm P Q G y r al be) y m), .int .i64 be] w' fun e w'' => e = .returned (.int .i64 ((sigC P Q G (bcm P Q G y r al be) y m + be) % Q)) ∧ Up w' w''))
  unfold bldE
  generalize bcm P Q G y r al be = K at *
  generalize sigC P Q G K y m = D at *
  generalize (D + be) % Q = V at *
  generalize gvB P Q G = b1 at *
  generalize [y, r].all (conB P Q G) = b2 at *
  generalize [al, be].all (exB Q) = b3 at *
  generalize decide (m.length ≤ 16384) = b4 at *
  obtain ⟨va, vc, rfl, _, _⟩ := hv.shape
  obtain ⟨n, hn⟩ : ∃ n, m.length = n := ⟨_, rfl⟩
  rw [hn] at M5 ⊢
  obtain ⟨o, ho⟩ : ∃ o, w.heap.size = o := ⟨_, rfl⟩
  have HO := hid ho
  obtain ⟨o1, ho1⟩ : ∃ o1, o + 1 = o1 := ⟨_, rfl⟩
  have HO1 := hid ho1
  have hlw : w.heap.size ≤ o1 := by omega
  clear hT hS hv hm hn ho ho1
  go_enter Tryz.func11, Tryz.ntmps11
  go_wp2_with fail
  refine (M1.out _ (((Up.refl w).alloc _).alloc _)).mono ?_
  rintro e w1 ⟨rfl, hU1⟩
  have HA1 := hid (((Blk.new (w := w) (g := o) (t := 23) (cs := #[.int .i64 P, .int .i64 Q, .int .i64 G]) HO.out rfl).up ((Up.refl _).alloc _)).up hU1)
  have HZ1 := hid (((Blk.new (g := o1) (t := 40) (cs := #[.int .i64 0, .int .i64 0, .int .i64 0, .int .i64 0]) (by have := HO.out; have := HO1.out; simp; omega) rfl)).up hU1)
  have HU1 := hid ((((Up.refl w).alloc _).alloc _).trans hU1)
  clear hU1
  rw [HO.out, HO1.out]
  have c0 := HA1.out.val (i := 0) rfl
  have c1 := HA1.out.val (i := 1) rfl
  have c2 := HA1.out.val (i := 2) rfl
  have z0 := HZ1.out.val (i := 0) rfl
  have z1 := HZ1.out.val (i := 1) rfl
  have z2 := HZ1.out.val (i := 2) rfl
  have z3 := HZ1.out.val (i := 3) rfl
  have zt0 := HZ1.out.thawed 0
  have zt1 := HZ1.out.thawed 1
  have zt2 := HZ1.out.thawed 2
  have zt3 := HZ1.out.thawed 3
  cases b1
  · have hb := blk_four HZ1.out (.int .i64 0) (.int .i64 0) (.int .i64 0) (.int .i64 0)
    go_wp2
    refine bodyPost_ret (results_row_tmp2 Tryz.results11 _ _ o1 40 _ (0, 0) _ (by rfl) hb Tryz.underlying40 rfl (by kernel_rfl)) rfl ⟨rfl, ((((HU1.out.setCell hlw _).setCell hlw _).setCell hlw _).setCell hlw _)⟩
  go_wp2_with fail
  refine (M2.out _ _ (HU1.out.alloc _) (ints_two (by go_simp) (by go_simp))).mono ?_
  rintro e w2 ⟨rfl, hU2⟩
  have hU2 := ((Up.refl w1).alloc _).trans hU2
  have HA2 := hid (HA1.out.up hU2)
  have HZ2 := hid (HZ1.out.up hU2)
  have HU2 := hid (HU1.out.trans hU2)
  clear hU2 HA1 HZ1 HU1 c0 c1 c2 z0 z1 z2 z3 zt0 zt1 zt2 zt3
  have c0 := HA2.out.val (i := 0) rfl
  have c1 := HA2.out.val (i := 1) rfl
  have c2 := HA2.out.val (i := 2) rfl
  have z0 := HZ2.out.val (i := 0) rfl
  have z1 := HZ2.out.val (i := 1) rfl
  have z2 := HZ2.out.val (i := 2) rfl
  have z3 := HZ2.out.val (i := 3) rfl
  have zt0 := HZ2.out.thawed 0
  have zt1 := HZ2.out.thawed 1
  have zt2 := HZ2.out.thawed 2
  have zt3 := HZ2.out.thawed 3
  cases b2
  · have hb := blk_four HZ2.out (.int .i64 0) (.int .i64 0) (.int .i64 0) (.int .i64 0)
    go_wp2
    refine bodyPost_ret (results_row_tmp2 Tryz.results11 _ _ o1 40 _ (0, 0) _ (by rfl) hb Tryz.underlying40 rfl (by kernel_rfl)) rfl ⟨rfl, ((((HU2.out.setCell hlw _).setCell hlw _).setCell hlw _).setCell hlw _)⟩
  go_wp2_with fail
  refine (M3.out _ _ (ints_two (by go_simp) (by go_simp))).mono ?_
  rintro e w3 ⟨rfl, hU3⟩
  have hU3 := ((Up.refl w2).alloc _).trans hU3
  have HA3 := hid (HA2.out.up hU3)
  have HZ3 := hid (HZ2.out.up hU3)
  have HU3 := hid (HU2.out.trans hU3)
  clear hU3 HA2 HZ2 HU2 c0 c1 c2 z0 z1 z2 z3 zt0 zt1 zt2 zt3
  have c0 := HA3.out.val (i := 0) rfl
  have c1 := HA3.out.val (i := 1) rfl
  have c2 := HA3.out.val (i := 2) rfl
  have z0 := HZ3.out.val (i := 0) rfl
  have z1 := HZ3.out.val (i := 1) rfl
  have z2 := HZ3.out.val (i := 2) rfl
  have z3 := HZ3.out.val (i := 3) rfl
  have zt0 := HZ3.out.thawed 0
  have zt1 := HZ3.out.thawed 1
  have zt2 := HZ3.out.thawed 2
  have zt3 := HZ3.out.thawed 3
  cases b3
  · have hb := blk_four HZ3.out (.int .i64 0) (.int .i64 0) (.int .i64 0) (.int .i64 0)
    go_wp2
    refine bodyPost_ret (results_row_tmp2 Tryz.results11 _ _ o1 40 _ (0, 0) _ (by rfl) hb Tryz.underlying40 rfl (by kernel_rfl)) rfl ⟨rfl, ((((HU3.out.setCell hlw _).setCell hlw _).setCell hlw _).setCell hlw _)⟩
  go_wp2_with fail
  refine (M4.out _ (HU3.out) (by trivial) (by trivial) (by trivial)).mono ?_
  rintro e w4 ⟨rfl, hU4⟩
  have HA4 := hid (HA3.out.up hU4)
  have HZ4 := hid (HZ3.out.up hU4)
  have HU4 := hid (HU3.out.trans hU4)
  clear hU4 HA3 HZ3 HU3 c0 c1 c2 z0 z1 z2 z3 zt0 zt1 zt2 zt3
  have c0 := HA4.out.val (i := 0) rfl
  have c1 := HA4.out.val (i := 1) rfl
  have c2 := HA4.out.val (i := 2) rfl
  have z0 := HZ4.out.val (i := 0) rfl
  have z1 := HZ4.out.val (i := 1) rfl
  have z2 := HZ4.out.val (i := 2) rfl
  have z3 := HZ4.out.val (i := 3) rfl
  have zt0 := HZ4.out.thawed 0
  have zt1 := HZ4.out.thawed 1
  have zt2 := HZ4.out.thawed 2
  have zt3 := HZ4.out.thawed 3
  obtain ⟨o3, ho3⟩ : ∃ o3, w4.heap.size = o3 := ⟨_, rfl⟩
  have l13 : o1 < o3 := by have := HZ4.out.lt; omega
  have l03 : o < o3 := by have := HA4.out.lt; omega
  go_wp2_with fail
  refine (M5.out _ (HU4.out.alloc _) (by trivial) (by trivial)).mono ?_
  rintro e w5 ⟨rfl, hU5⟩
  have HXX5 := hid (((Blk.new (g := o3) (t := 40) (cs := #[.int .i64 al, .int .i64 be, .int .i64 K, .int .i64 0]) ho3 rfl)).up hU5)
  have hU5 := ((Up.refl w4).alloc _).trans hU5
  have HA5 := hid (HA4.out.up hU5)
  have HZ5 := hid (HZ4.out.up hU5)
  have HU5 := hid (HU4.out.trans hU5)
  clear hU5 HA4 HZ4 HU4 c0 c1 c2 z0 z1 z2 z3 zt0 zt1 zt2 zt3
  try rw [ho3]
  clear ho3
  have c0 := HA5.out.val (i := 0) rfl
  have c1 := HA5.out.val (i := 1) rfl
  have c2 := HA5.out.val (i := 2) rfl
  have z0 := HZ5.out.val (i := 0) rfl
  have z1 := HZ5.out.val (i := 1) rfl
  have z2 := HZ5.out.val (i := 2) rfl
  have z3 := HZ5.out.val (i := 3) rfl
  have zt0 := HZ5.out.thawed 0
  have zt1 := HZ5.out.thawed 1
  have zt2 := HZ5.out.thawed 2
  have zt3 := HZ5.out.thawed 3
  have x0 := HXX5.out.val (i := 0) rfl
  have x1 := HXX5.out.val (i := 1) rfl
  have x2 := HXX5.out.val (i := 2) rfl
  have x3 := HXX5.out.val (i := 3) rfl
  have xt0 := HXX5.out.thawed 0
  have xt1 := HXX5.out.thawed 1
  have xt2 := HXX5.out.thawed 2
  have xt3 := HXX5.out.thawed 3
  cases b4
  · have hb := blk_four HZ5.out (.int .i64 0) (.int .i64 0) (.int .i64 0) (.int .i64 0)
    go_wp2
    refine bodyPost_ret (results_row_tmp2 Tryz.results11 _ _ o1 40 _ (0, 0) _ (by rfl) hb Tryz.underlying40 rfl (by kernel_rfl)) rfl ⟨rfl, ((((HU5.out.setCell hlw _).setCell hlw _).setCell hlw _).setCell hlw _)⟩
  rw [show orZ (if true = true then (0 : Int) else 5) D = D from rfl]
  go_wp2_with fail
  clear c0 c1 c2 z0 z1 z2 z3 zt0 zt1 zt2 zt3 x0 x1 x2 x3 xt0 xt1 xt2 xt3
  have HA6 := hid (HA5.out.apart (a := ⟨o3, 3, none⟩) (by show o ≠ o3; omega) (.int .i64 D))
  have HZ6 := hid (HZ5.out.apart (a := ⟨o3, 3, none⟩) (by show o1 ≠ o3; omega) (.int .i64 D))
  have HV6 : Hid (Blk (w5.setCell ⟨o3, 3, none⟩ (.int .i64 D)) o3 40 #[.int .i64 al, .int .i64 be, .int .i64 K, .int .i64 D]) := hid (HXX5.out.wrote 3 (.int .i64 D))
  have HU6 := hid (HU5.out.setCell (a := ⟨o3, 3, none⟩) (by show w.heap.size ≤ o3; omega) (.int .i64 D))
  generalize w5.setCell ⟨o3, 3, none⟩ (.int .i64 D) = w6 at *
  clear HA5 HZ5 HXX5 HU5
  refine region_E (fun w' => Blk w' o 23 #[.int .i64 P, .int .i64 Q, .int .i64 G] ∧ Blk w' o3 40 #[.int .i64 al, .int .i64 be, .int .i64 K, .int .i64 D]) 7 (by kernel_rfl) ⟨HA6.out.up (Up.refl _).drew, HV6.out.up (Up.refl _).drew⟩ fun hS => ?_
  have hZ0 := HZ6.out.up (Up.refl w6).drew
  have hU0 := HU6.out.drew
  generalize w6.drew = v0 at *
  refine anyE_take (i := 0) (v := ?_) 63 rfl rfl (by kernel_rfl) (by kernel_rfl) (by decide) (fun _ _ _ h => h) (by kernel_rfl) (by kernel_rfl) (.inl ⟨by rfl, fun u hu => ?_⟩) hS ?_
  rotate_left
  · (obtain ⟨ua, ub⟩ := hu; have q0 := ua.val (i := 0) rfl; have q1 := ua.val (i := 1) rfl; have q2 := ua.val (i := 2) rfl; have u0 := ub.val (i := 0) rfl; have u1 := ub.val (i := 1) rfl; have u2 := ub.val (i := 2) rfl; have u3 := ub.val (i := 3) rfl; go_simp; first | done | with_reducible rfl)
  try simp only [Act.put, List.setIfInBounds_toArray, List.set_cons_zero, List.set_cons_succ]
  refine anyE_take (i := 1) (v := ?_) 64 rfl rfl (by kernel_rfl) (by kernel_rfl) (by decide) (fun _ _ _ h => h) (by kernel_rfl) (by kernel_rfl) (.inl ⟨by rfl, fun u hu => ?_⟩) hS ?_
  rotate_left
  · (obtain ⟨ua, ub⟩ := hu; have q0 := ua.val (i := 0) rfl; have q1 := ua.val (i := 1) rfl; have q2 := ua.val (i := 2) rfl; have u0 := ub.val (i := 0) rfl; have u1 := ub.val (i := 1) rfl; have u2 := ub.val (i := 2) rfl; have u3 := ub.val (i := 3) rfl; go_simp; first | done | with_reducible rfl)
  try simp only [Act.put, List.setIfInBounds_toArray, List.set_cons_zero, List.set_cons_succ]
  refine anyE_take (i := 2) (v := ?_) 65 rfl rfl (by kernel_rfl) (by kernel_rfl) (by decide) (fun _ _ _ h => h) (by kernel_rfl) (by kernel_rfl) (.inl ⟨by rfl, fun u hu => ?_⟩) hS ?_
  rotate_left
  · (obtain ⟨ua, ub⟩ := hu; have q0 := ua.val (i := 0) rfl; have q1 := ua.val (i := 1) rfl; have q2 := ua.val (i := 2) rfl; have u0 := ub.val (i := 0) rfl; have u1 := ub.val (i := 1) rfl; have u2 := ub.val (i := 2) rfl; have u3 := ub.val (i := 3) rfl; go_simp; first | done | with_reducible rfl)
  try simp only [Act.put, List.setIfInBounds_toArray, List.set_cons_zero, List.set_cons_succ]
  refine anyE_take (i := 3) (v := ?_) 66 rfl rfl (by kernel_rfl) (by kernel_rfl) (by decide) (fun _ _ _ h => h) (by kernel_rfl) (by kernel_rfl) (.inl ⟨by rfl, fun u hu => ?_⟩) hS ?_
  rotate_left
  · (obtain ⟨ua, ub⟩ := hu; have q0 := ua.val (i := 0) rfl; have q1 := ua.val (i := 1) rfl; have q2 := ua.val (i := 2) rfl; have u0 := ub.val (i := 0) rfl; have u1 := ub.val (i := 1) rfl; have u2 := ub.val (i := 2) rfl; have u3 := ub.val (i := 3) rfl; go_simp; first | done | with_reducible rfl)
  try simp only [Act.put, List.setIfInBounds_toArray, List.set_cons_zero, List.set_cons_succ]
  refine anyE_one (i := 4) rfl (by kernel_rfl) rfl (fun K' hK => ?_)
  go_simp
  refine (M6.out _ (by trivial) (by trivial)).mono ?_
  rintro e v1 ⟨rfl, hup⟩
  dsimp only
  have hS1 : Blk v1 o 23 #[.int .i64 P, .int .i64 Q, .int .i64 G] ∧ Blk v1 o3 40 #[.int .i64 al, .int .i64 be, .int .i64 K, .int .i64 D] := ⟨hS.1.up hup, hS.2.up hup⟩
  have hZ1 := hZ0.up hup
  have hU1 := hU0.trans hup
  refine hK.out _ _ (.inr hS1) ?_
  clear hK hup hS hZ0 hU0
  try simp only [Act.put, List.setIfInBounds_toArray, List.set_cons_zero, List.set_cons_succ]
  refine anyE_one (i := 5) rfl (by kernel_rfl) rfl (fun K' hK => ?_)
  refine op_store_row 40 _ _ rfl rfl o1 #[.int .i64 al, .int .i64 be, .int .i64 K, .int .i64 D] rfl rfl 40 #[.int .i64 0, .int .i64 0, .int .i64 0, .int .i64 0] hZ1 (by kernel_rfl) rfl (by first | kernel_rfl | simp [Value.oneCell']) ?_
  have hS2 : Blk (v1.setRow o1 #[.int .i64 al, .int .i64 be, .int .i64 K, .int .i64 D]) o 23 #[.int .i64 P, .int .i64 Q, .int .i64 G] ∧ Blk (v1.setRow o1 #[.int .i64 al, .int .i64 be, .int .i64 K, .int .i64 D]) o3 40 #[.int .i64 al, .int .i64 be, .int .i64 K, .int .i64 D] := ⟨Blk.rowApart hS1.1 (by have := HO1.out; omega) _, Blk.rowApart hS1.2 (by omega) _⟩
  refine hK.out _ _ (.inr hS2) ?_
  clear hK
  try simp only [Act.put, List.setIfInBounds_toArray, List.set_cons_zero, List.set_cons_succ]
  refine anyE_one (i := 6) rfl (by kernel_rfl) rfl (fun K' hK => ?_)
  go_simp
  refine hK.out _ _ (.inr hS2) ?_
  clear hK
  try simp only [Act.put, List.setIfInBounds_toArray, List.set_cons_zero, List.set_cons_succ]
  refine anyE_one (i := 7) rfl (by kernel_rfl) rfl (fun K' hK => ?_)
  go_simp
  refine hK.out _ _ (.inl rfl) (anyE_done (by kernel_rfl) ?_ _)
  clear hK
  go_wp2
  refine bodyPost_ret (results_row_tmp2 Tryz.results11 _ _ o1 40 _ (0, 0) _ (by rfl) (hZ1.row _) Tryz.underlying40 rfl (by kernel_rfl)) rfl ⟨rfl, hU1.setRow hlw _⟩
end Go.Proofs.YtoaomjdpiealfaaGreatDoor
namespace Go.Proofs.YtoaomjdpiealfaaGreatDoor
open Go.RowKit Go.Sp
set_option maxRecDepth 20000

theorem frgE_of {P Q G y c s : Int} (hg : gvB P Q G = true) (hy : elB P Q y = true) (hc : exB Q c = true) (hs : exB Q s = true) : frgE P Q G y c s = 0 := by
  simp [frgE, errE, hg, hy, hc, hs]
theorem rgtB_of {P Q G y r c s : Int} (hg : gvB P Q G = true) (hy : elB P Q y = true) (hc : exB Q c = true) (hs : exB Q s = true) (h : frgV P Q G y c s = r) : rgtB P Q G y r c s = true := by
  simp [rgtB, frgE_of hg hy hc hs, h]
theorem chkB_of {P Q G y r c s : Int} (hg : gvB P Q G = true) (hy : elB P Q y = true) (hr : elB P Q r = true) (hc : exB Q c = true) (hs : exB Q s = true) (h : frgV P Q G y c s = r) : chkB P Q G y r c s = true := by
  simp [chkB, conB, hg, hy, hr, hc, hs, rgtB_of hg hy hc hs h]
theorem verS_of {P Q G y c s : Int} {m : List Int} (hg : gvB P Q G = true) (hy : elB P Q y = true) (hc : exB Q c = true) (hs : exB Q s = true) (hl : m.length ≤ 16384) (h : sigC P Q G (frgV P Q G y c s) y m = c) : verS P Q G y m c s = true := by
  simp [verS, frgE_of hg hy hc hs, hl, h]
theorem gvnE_of {P Q G y r c s : Int} {m : List Int} {sc ss : Int} (hg : gvB P Q G = true) (hy : elB P Q y = true) (hc : chkB P Q G y r c s = true) (hv : verS P Q G y m sc ss = true) : gvnE P Q G y r c s m sc ss = 0 := by
  simp [gvnE, bgE, conB, hg, hy, hc, hv]
theorem ex_mod {Q a : Int} (hQ : 2 ≤ Q) : exB Q (a % Q) = true := exB_iff.2 ⟨Int.emod_nonneg _ (by omega), Int.emod_lt_of_pos _ (by omega)⟩
theorem bldE_of {P Q G y r al be : Int} {n : Nat} (hg : gvB P Q G = true) (hy : elB P Q y = true) (hr : elB P Q r = true) (ha : exB Q al = true) (hb : exB Q be = true) (hn : n ≤ 16384) : bldE P Q G y r al be n = 0 := by
  simp [bldE, blE, conB, hg, hy, hr, ha, hb, hn]
theorem unbE_of {P Q G y r al be cm ch s : Int} (hg : gvB P Q G = true) (hy : elB P Q y = true) (hr : elB P Q r = true) (ha : exB Q al = true) (hb : exB Q be = true) (hd : exB Q ch = true) (hs : exB Q s = true) (hm : cm = bcm P Q G y r al be) (hf : frgV P Q G y ((ch + be) % Q) s = r) : unbE P Q G y r al be cm ch s = 0 := by
  subst hm
  simp [unbE, ubE, conB, hg, hy, hr, ha, hb, hd, hs, bcm_el hg hy hr, rgtB_of hg hy (ex_mod (gv_q hg).1) hs hf]

/-- What an honest withdrawal has. -/
structure Honest (P Q G x k al be : Int) (m : List Int) (y r K D C S T : Int) : Prop where
  key : errE (gvB P Q G) (exB Q x) = 0
  offer : errE (gvB P Q G) ([k].all (exB Q)) = 0
  blind : bldE P Q G y r al be m.length = 0
  com : bcm P Q G y r al be = K
  chal : sigC P Q G K y m = D
  blinded : (D + be) % Q = C
  answer : errE (gvB P Q G) ([x, k, C].all (exB Q)) = 0
  ans : ansV Q x k C = S
  unblind : unbE P Q G y r al be K D S = 0
  last : (S + al) % Q = T
  right : verS P Q G y m D T = true
  view : chkB P Q G y r C S = true
  given : gvnE P Q G y r C S m D T = 0
  fal : (T - S) % Q = al
  fbe : (C - D) % Q = be
  ely : elB P Q y = true
  elr : elB P Q r = true

theorem honest_all {P Q G x k al be : Int} {m : List Int} (hg : gvB P Q G = true) (hx : exB Q x = true) (hk : exB Q k = true) (ha : exB Q al = true) (hb : exB Q be = true) (hl : m.length ≤ 16384) :
    ∃ K D C S T, Honest P Q G x k al be m (pwi P G x) (pwi P G k) K D C S T := by
  have g := gv_iff.1 hg
  have g2 := g.P4
  have g3 := g.Q3
  have q2 := gv_q hg
  have hG := sgen_el hg
  have hy : elB P Q (pwi P G x) = true := el_pw (by omega) (by omega) hG _
  have hr : elB P Q (pwi P G k) = true := el_pw (by omega) (by omega) hG _
  obtain ⟨K, hK⟩ : ∃ K, bcm P Q G (pwi P G x) (pwi P G k) al be = K := ⟨_, rfl⟩
  obtain ⟨D, hD⟩ : ∃ D, sigC P Q G K (pwi P G x) m = D := ⟨_, rfl⟩
  obtain ⟨C, hC⟩ : ∃ C, (D + be) % Q = C := ⟨_, rfl⟩
  obtain ⟨S, hS⟩ : ∃ S, ansV Q x k C = S := ⟨_, rfl⟩
  obtain ⟨T, hT⟩ : ∃ T, (S + al) % Q = T := ⟨_, rfl⟩
  have hd := sigC_range P G K (pwi P G x) m (Q := Q) (by omega)
  rw [hD] at hd
  have hdE : exB Q D = true := exB_iff.2 hd
  have hcE : exB Q C = true := by rw [← hC]; exact ex_mod q2.1
  have hsE : exB Q S = true := by rw [← hS]; exact ex_mod q2.1
  have htE : exB Q T = true := by rw [← hT]; exact ex_mod q2.1
  have hf : frgV P Q G (pwi P G x) C S = pwi P G k := by rw [← hS]; exact honest_fits hg hx hk
  have hu : frgV P Q G (pwi P G x) D T = K := by
    rw [← hT, ← hK]
    exact unblind_fits hg hy hr hsE (by rw [hC]; exact hf)
  have hv : verS P Q G (pwi P G x) m D T = true := verS_of hg hy hdE htE hl (by rw [hu]; exact hD)
  have hc : chkB P Q G (pwi P G x) (pwi P G k) C S = true := chkB_of hg hy hr hcE hsE hf
  obtain ⟨a0, a1⟩ := exB_iff.1 ha
  obtain ⟨b0, b1⟩ := exB_iff.1 hb
  refine ⟨K, D, C, S, T, by simp [errE, hg, hx], by simp [errE, hg, hk], bldE_of hg hy hr ha hb hl, hK, hD, hC, by simp [errE, hg, hx, hk, hcE], hS, unbE_of hg hy hr ha hb hdE hsE hK.symm (by rw [hC]; exact hf), hT, hv, hc, gvnE_of hg hy hc hv, ?_, ?_, hy, hr⟩
  · exact mod_sub_add (b := al) (c := S) (by rw [← hT, Int.add_comm]) a0 a1
  · exact mod_sub_add (b := be) (c := D) (by rw [← hC, Int.add_comm]) b0 b1

/-- What a right view and a right signature have. -/
structure Joined (P Q G y r c s : Int) (m : List Int) (sc ss al be K : Int) : Prop where
  given : gvnE P Q G y r c s m sc ss = 0
  fal : (ss - s) % Q = al
  fbe : (c - sc) % Q = be
  ala : exB Q al = true
  bea : exB Q be = true
  blind : bldE P Q G y r al be m.length = 0
  com : bcm P Q G y r al be = K
  chal : sigC P Q G K y m = sc
  back : (sc + be) % Q = c
  unblind : unbE P Q G y r al be K sc s = 0
  last : (s + al) % Q = ss

theorem joined_all {P Q G y r c s : Int} {m : List Int} {sc ss : Int} (hc : chkB P Q G y r c s = true) (hv : verS P Q G y m sc ss = true) : ∃ al be K, Joined P Q G y r c s m sc ss al be K := by
  obtain ⟨hg, hy, hr, hc1, hs1, hfr⟩ := chkB_ok hc
  obtain ⟨_, _, hsc, hss, hml, hsig⟩ := verS_ok hv
  have q2 := gv_q hg
  obtain ⟨c0, c1⟩ := exB_iff.1 hc1
  obtain ⟨s0, s1⟩ := exB_iff.1 hss
  obtain ⟨al, ha⟩ : ∃ al, (ss - s) % Q = al := ⟨_, rfl⟩
  obtain ⟨be, hb⟩ : ∃ be, (c - sc) % Q = be := ⟨_, rfl⟩
  have haE : exB Q al = true := by rw [← ha]; exact ex_mod q2.1
  have hbE : exB Q be = true := by rw [← hb]; exact ex_mod q2.1
  have hvc : (sc + be) % Q = c := mod_add_sub hb.symm c0 c1
  have hvs : (s + al) % Q = ss := mod_add_sub ha.symm s0 s1
  have hK : frgV P Q G y sc ss = bcm P Q G y r al be := by
    have h := unblind_fits (al := al) (be := be) (ch := sc) (s := s) hg hy hr hs1 (by rw [hvc]; exact hfr)
    rwa [hvs] at h
  exact ⟨al, be, _, gvnE_of hg hy hc hv, ha, hb, haE, hbE, bldE_of hg hy hr haE hbE hml, rfl, by rw [← hK]; exact hsig, hvc, unbE_of hg hy hr haE hbE hsc hs1 rfl (by rw [hvc]; exact hfr), hvs⟩
end Go.Proofs.YtoaomjdpiealfaaGreatDoor
namespace Go.Proofs.YtoaomjdpiealfaaGreatDoor
open Go.RowKit Go.Sp
set_option maxHeartbeats 4000000
set_option maxRecDepth 20000

theorem r23Scalar_any (P Q G x : Int) (w : World) :
    Calls Tryz.prog 8 #[grp P Q G, .int .i64 x] w fun e w' => e = .returned (.bool (exB Q x)) ∧ Up w w' := by
  have HB : Hid (exB Q x = (decide (0 ≤ x) && decide (x < Q))) := hid rfl
  generalize exB Q x = X at *
  by_cases c1 : x ≥ 0
  case neg =>
    have d1 : decide (x ≥ 0) = false := by simpa using c1
    have hX : X = false := by rw [HB.out, show decide (0 ≤ x) = false from d1]; rfl
    subst hX
    clear c1
    go_enter Tryz.func8, Tryz.ntmps8
    go_wp2
    go_ret
    exact ⟨rfl, (Up.refl w).alloc _⟩
  have d1 : decide (x ≥ 0) = true := by simpa using c1
  have HB2 : Hid (X = decide (x < Q)) := hid (by rw [HB.out, show decide (0 ≤ x) = true from d1]; rfl)
  clear HB
  go_enter Tryz.func8, Tryz.ntmps8
  go_wp2
  go_ret
  exact ⟨by rw [HB2.out]; rfl, (Up.refl w).alloc _⟩

theorem awake23 (w : World) (hT : Tab w) (hS : TabS w) : Calls Tryz.prog 6 #[] w fun e w' => e = .returned (.bool true) ∧ Up w w' := by
  have M1 := hid (fun w' (hU : Up w w') => bliOffer_any 23 11 4 1 w' (by omega) (by omega) (hT.up hU))
  rw [show errE (gvB 23 11 4) ([1].all (exB 11)) = 0 by decide +kernel, show pwi 23 4 1 = 4 by decide +kernel, show orZ 0 4 = 4 from rfl] at M1
  have M2 := hid (fun w' (hU : Up w w') => bliBlind_any 23 11 4 18 4 2 1 (.slice none 0 0) [] w' (by omega) (by omega) (hT.up hU) (hS.up hU) seq_none (by simp))
  rw [show bldE 23 11 4 18 4 2 1 ([] : List Int).length = 0 by decide +kernel, show bcm 23 11 4 18 4 2 1 = 2 by decide +kernel] at M2
  generalize sigC 23 11 4 2 18 [] = D at *
  generalize (D + 1) % 11 = C at *
  rw [show orZ 0 2 = 2 from rfl, show orZ 0 1 = 1 from rfl, show orZ 0 D = D from rfl, show orZ 0 C = C from rfl] at M2
  have M3 := hid (fun w' (hU : Up w w') => bliAnswer_any 23 11 4 3 1 5 w' (by omega) (by omega) (hT.up hU))
  rw [show errE (gvB 23 11 4) ([3, 1, 5].all (exB 11)) = 0 by decide +kernel, show ansV 11 3 1 5 = 5 by decide +kernel, show orZ 0 5 = 5 from rfl] at M3
  have M4 := hid (fun w' (hU : Up w w') => bliCheck_any 23 11 4 18 4 5 5 w' (by omega) (by omega) (hT.up hU))
  rw [show chkB 23 11 4 18 4 5 5 = true by decide +kernel] at M4
  clear hT hS
  obtain ⟨o, ho⟩ : ∃ o, w.heap.size = o := ⟨_, rfl⟩
  have HO := hid ho
  obtain ⟨o1, ho1⟩ : ∃ o1, o + 1 = o1 := ⟨_, rfl⟩
  have HO1 := hid ho1
  clear ho ho1
  go_enter Tryz.func6, Tryz.ntmps6
  go_wp2_with fail
  refine (M1.out _ ((Up.refl w).alloc _)).mono ?_
  rintro e w1 ⟨rfl, hU1⟩
  have HA1 := hid ((nums_three (w := w) (t := 23) HO.out).up hU1)
  have HU1 := hid (((Up.refl w).alloc _).trans hU1)
  clear hU1
  rw [HO.out]
  obtain ⟨c0, c1, c2⟩ := HA1.out
  go_wp2_with fail
  refine (M2.out _ (HU1.out)).mono ?_
  rintro e w2 ⟨rfl, hU2⟩
  have HA2 := hid (HA1.out.up hU2)
  have HU2 := hid (HU1.out.trans hU2)
  clear hU2 HA1 HU1 c0 c1 c2
  obtain ⟨c0, c1, c2⟩ := HA2.out
  obtain ⟨o2, ho2⟩ : ∃ o2, w2.heap.size = o2 := ⟨_, rfl⟩
  have lo2 : o < o2 := by rw [← ho2]; exact cell_lt c0
  go_wp2_with fail
  refine (M3.out _ (HU2.out.alloc _)).mono ?_
  rintro e w3 ⟨rfl, hU3⟩
  have HB3 := hid ((Blk.new (g := o2) (t := 40) (cs := #[.int .i64 2, .int .i64 1, .int .i64 2, .int .i64 D]) ho2 rfl).up hU3)
  have hU3 := ((Up.refl w2).alloc _).trans hU3
  have HA3 := hid (HA2.out.up hU3)
  have HU3 := hid (HU2.out.trans hU3)
  clear hU3 HA2 HU2 c0 c1 c2
  try rw [ho2]
  clear ho2
  obtain ⟨c0, c1, c2⟩ := HA3.out
  have u0 := HB3.out.val (i := 0) rfl
  have u1 := HB3.out.val (i := 1) rfl
  have u2 := HB3.out.val (i := 2) rfl
  have u3 := HB3.out.val (i := 3) rfl
  go_wp2_with fail
  refine (M4.out _ (HU3.out)).mono ?_
  rintro e w4 ⟨rfl, hU4⟩
  have HA4 := hid (HA3.out.up hU4)
  have HB4 := hid (HB3.out.up hU4)
  have HU4 := hid (HU3.out.trans hU4)
  clear hU4 HA3 HB3 HU3 c0 c1 c2 u0 u1 u2 u3
  go_wp2
  go_ret
  exact ⟨rfl, HU4.out⟩
end Go.Proofs.YtoaomjdpiealfaaGreatDoor
