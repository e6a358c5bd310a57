/- Tables of powers: the digits; boxes that are known whole. -/
import Derived.Test.YtmbbnjbohnobcaaDoorTabA
import Derived.Test.YtmbbnjbohnobcaaDoorProdG
import Derived.Test.YtmbbnjbohnobcaaDoorAwakeTen
import Derived.Test.YtmbbnjbohnobcaaDoorOwnB
import Derived.Test.YtmbbnjbohnobcaaDoorWhole
namespace Go.Proofs.YtmbbnjbohnobcaaDoor
open Go.RowKit Go.Sp
set_option maxHeartbeats 1000000
set_option maxRecDepth 20000

theorem digits_ok (P Q G : Int) (w : World) (hQ1 : 1 ≤ Q) (hQ : Q < 2305843009213693952) :
    Calls Tryd.prog 119 #[grp P Q G] w fun e w' => e = .returned (.int .i64 (digs Q)) ∧ Up w w' := by
  obtain ⟨D, hD⟩ : ∃ D, digs Q = D := ⟨_, rfl⟩
  have HD := hid hD
  have hD16 : D ≤ 16 := by rw [← hD]; exact digs_le Q
  obtain ⟨k0, hk0⟩ : ∃ k0 : Nat, Q - 1 = k0 := ⟨(Q - 1).toNat, by omega⟩
  have HK : Hid (hexlen 16 k0 = D) := hid (by rw [← hD, digs, hk0, Int.toNat_natCast])
  have HQ : Hid (Q - 1 = (k0 : Int)) := hid hk0
  have hk : k0 < 2305843009213693952 := by omega
  rw [hD]
  clear hD hk0
  go_enter Tryd.func119, Tryd.ntmps119
  go_wp2_with fail
  rw [HQ.out]
  go_loopw [3, 4] (fun vn vk wr => ∃ c f k : Nat, vn = .int .i64 c ∧ vk = .int .i64 k ∧ Hid (c + hexlen f k = D) ∧ Hid (k < 16 ^ f) ∧ k ≤ k0 ∧ Up w wr) (fun _ vk _ => (intOf vk).toNat)
  case atStart => exact ⟨0, 16, k0, rfl, rfl, hid (by rw [HK.out]; omega), hid (by omega), Nat.le_refl _, (Up.refl w).alloc _⟩
  case round =>
    obtain ⟨c, f, k, rfl, rfl, HS, HL, hkk, hU⟩ := hrel
    by_cases hz : k = 0
    · subst hz
      have HE : Hid (D = c) := hid (by rw [← HS.out, hexlen_zero]; rfl)
      go_wp2
      go_ret
      exact ⟨by rw [HE.out]; rfl, hU⟩
    · obtain ⟨g, rfl, h1, h2⟩ := hexlen_step hz HL.out
      have HS2 : Hid (c + 1 + hexlen g (k / 16) = D) := hid (by rw [← HS.out, h2]; omega)
      have HL2 := hid h1
      have hc : c < 16 := by
        have := HS.out
        rw [h2] at this
        omega
      have d1 : decide (0 < k) = true := by simp; omega
      have hlt : k / 16 < k := by omega
      clear h1 h2 HS HL
      go_wp2_with fail
      go_roundw
      case rel => exact ⟨c + 1, g, k / 16, by go_num, by go_num, HS2, HL2, by omega, hU⟩
      case measure => simp [intOf]; omega
end Go.Proofs.YtmbbnjbohnobcaaDoor
