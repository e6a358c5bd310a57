/- specieref12: products of powers, products of elements; product.Join. -/
import Derived.Test.YtldodbffdegmiaaDoorProdD
namespace Go.Proofs.YtldodbffdegmiaaDoor
open Go.RowKit Go.Sp
set_option maxHeartbeats 1000000
set_option maxRecDepth 20000

theorem rExponent_any (P Q G x : Int) (w : World) :
    Calls Tryd.prog 45 #[grp P Q G, .int .i64 x] w fun e w' => e = .returned (.bool (exB Q x)) ∧ Up w w' := by
  by_cases h0 : 0 ≤ x
  · have hd : decide (0 ≤ x) = true := by simpa using h0
    have hB : exB Q x = decide (x < Q) := by simp [exB]; omega
    rw [hB]
    go_enter Tryd.func45, Tryd.ntmps45
    go_wp2
    go_ret
    exact ⟨rfl, (Up.refl w).alloc _⟩
  · have hd : decide (0 ≤ x) = false := by simpa using h0
    have hB : exB Q x = false := by simp [exB]; omega
    rw [hB]
    go_enter Tryd.func45, Tryd.ntmps45
    go_wp2
    go_ret
    exact ⟨rfl, (Up.refl w).alloc _⟩

theorem rproduct_ok (P Q G : Int) (v1 v2 : Value) (bs es : List Int) (w : World) (hQ : Q ≤ 9223372036854775807) (hg : gvB P Q G = true) (hb : ∀ x ∈ bs, elB P Q x = true) (he : ∀ x ∈ es, -9223372036854775808 ≤ x ∧ x ≤ 9223372036854775807) (hl : es.length = bs.length)
    (h1 : IntsAt w v1 bs) (h2 : IntsAt w v2 es) :
    Calls Tryd.prog 98 #[grp P Q G, v1, v2] w fun e w' => e = .returned (.int .i64 (pfold P Q 1 bs es)) ∧ Up w w' := by
  have g := gv_iff.1 hg
  have g1 := g.P61
  have g2 := g.P4
  have g3 := g.Q3
  have g4 := g.QP
  obtain ⟨l1, a1, cp1, rfl, hc1⟩ := h1
  obtain ⟨l2, a2, cp2, rfl, hc2⟩ := h2
  have HC1 := hid hc1
  have HC2 := hid hc2
  have HE := hid he
  have HB := hid hb
  have HL := hid hl
  obtain ⟨n, hn⟩ : ∃ n, bs.length = n := ⟨_, rfl⟩
  rw [hl]
  rw [hn] at l1
  rw [hn]
  have HN := hid hn
  obtain ⟨R, hR⟩ : ∃ R, pfold P Q 1 bs es = R := ⟨_, rfl⟩
  have HR := hid hR
  rw [hR]
  clear g hc1 hc2 he hb hl l2 hn hR hg
  go_enter Tryd.func98, Tryd.ntmps98
  go_wp2_with fail
  have HG0 : Hid (GrpAt (w.alloc (.cells #[.int .i64 P, .int .i64 Q, .int .i64 G] 23)) w.heap.size P Q G) := hid (box_reads rfl (Up.refl _))
  obtain ⟨o, ho⟩ : ∃ o, w.heap.size = o := ⟨_, rfl⟩
  rw [ho] at HG0
  rw [ho]
  clear ho
  go_loopw [7, 8] (fun vo vi wr => ∃ (i : Nat) (a : Int), i ≤ n ∧ vi = .int .i64 i ∧ vo = .int .i64 a ∧ Hid (R = pfold P Q a (bs.drop i) (es.drop i)) ∧ Hid (elB P Q a = true) ∧ Hid (Up w wr) ∧ Hid (GrpAt wr o P Q G)) (fun _ vi _ => n - (intOf vi).toNat)
  case atStart => exact ⟨0, 1, by omega, rfl, rfl, hid (by rw [← HR.out]; rfl), hid (el_one (by omega)), hid ((Up.refl w).alloc _), HG0⟩
  case round =>
    obtain ⟨i, a, hi, rfl, rfl, HD, HA, HU, HGr⟩ := hrel
    obtain ⟨c0, c1, c2⟩ := HGr.out
    by_cases hl : i < n
    · have hl1 : i < bs.length := by rw [HN.out]; exact hl
      have hl2 : i < es.length := by rw [HL.out]; exact hl1
      obtain ⟨b1, o1, rfl, k1⟩ := ints_cell HC1.out HU.out hl1
      obtain ⟨b2, o2, rfl, k2⟩ := ints_cell HC2.out HU.out hl2
      have HD2 : Hid (R = pfold P Q (a * gpw P Q (bs.getD i 0) (es.getD i 0) % P) (bs.drop (i + 1)) (es.drop (i + 1))) := hid (by rw [HD.out, drop_step hl1, drop_step hl2]; rfl)
      have HX := hid (HB.out _ (getD_mem hl1))
      obtain ⟨y0, y1⟩ := HE.out _ (getD_mem hl2)
      clear hl1 hl2 HD
      generalize bs.getD i 0 = x at *
      generalize es.getD i 0 = y at *
      obtain ⟨z, hz⟩ : ∃ z, gpw P Q x y = z := ⟨_, rfl⟩
      have HZ := hid hz
      have HZe := hid (gpw_el (by omega) (by omega) HX.out y)
      rw [hz] at HD2 HZe
      have HAn := hid (el_mul (by omega) (by omega) HA.out HZe.out)
      obtain ⟨x0, x1, _⟩ := el_iff.1 HX.out
      obtain ⟨z0, z1, _⟩ := el_iff.1 HZe.out
      obtain ⟨a0, a1', _⟩ := el_iff.1 HA.out
      clear hz
      go_wp2_with fail
      have hS0 := And.intro c0 (And.intro c1 (And.intro c2 (And.intro k1 (And.intro k2 (hid (Up.refl wr))))))
      clear c0 c1 c2 k1 k2
      go_region_held3 (fun w' => w'.cell? ⟨o, 0, none⟩ = some (.int .i64 P) ∧ w'.cell? ⟨o, 1, none⟩ = some (.int .i64 Q) ∧ w'.cell? ⟨o, 2, none⟩ = some (.int .i64 G) ∧ w'.cell? ⟨b1, o1 + i, none⟩ = some (.int .i64 x) ∧ w'.cell? ⟨b2, o2 + i, none⟩ = some (.int .i64 y) ∧ Hid (Up wr w')) (first | exact keepC5 ((Up.refl _).drew) (by assumption) | exact keepC5 ((Up.refl _).alloc _) (by assumption) | exact keepC5 (by assumption) (by assumption)) (first
        | (go_at_call 29; refine (rgPower_ok P Q G x y _ (by omega) x1 y0 y1 g1 (by omega) (by omega)).mono ?_; rintro e w9 ⟨rfl, hU9⟩; rw [HZ.out])
        | (go_at_call 30; refine (rgMul_ok P Q G a z _ (by omega) a1' (by omega) z1 g1).mono ?_; rintro e w9 ⟨rfl, hU9⟩))
      all_goals
        go_wp2_with fail
        go_roundw
        case rel => exact ⟨i + 1, _, by omega, by go_num, rfl, HD2, HAn, hid (HU.out.trans (up5 (by assumption))), hid (HGr.out.up (up5 (by assumption)))⟩
        case measure => simp [intOf]; omega
    · obtain rfl : i = n := by omega
      have HE2 : Hid (R = a) := hid (by rw [HD.out, List.drop_eq_nil_of_le (by rw [HN.out]; omega)]; rfl)
      go_wp2
      go_ret
      exact ⟨by rw [HE2.out]; rfl, HU.out⟩
end Go.Proofs.YtldodbffdegmiaaDoor
