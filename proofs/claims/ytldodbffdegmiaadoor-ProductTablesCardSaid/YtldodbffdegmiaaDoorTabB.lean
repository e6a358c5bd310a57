/- Tables of powers: the digits; boxes that are known whole. -/
import Derived.Test.YtldodbffdegmiaaDoorTabA
import Derived.Test.YtldodbffdegmiaaDoorProdG
import Derived.Test.YtldodbffdegmiaaDoorAwakeTen
import Derived.Test.YtldodbffdegmiaaDoorOwnB
namespace Go.Proofs.YtldodbffdegmiaaDoor
open Go.RowKit Go.Sp
set_option maxHeartbeats 1000000
set_option maxRecDepth 20000

theorem digits_ok (P Q G : Int) (w : World) (hQ1 : 1 ≤ Q) (hQ : Q < 2305843009213693952) :
    Calls Tryd.prog 99 #[grp P Q G] w fun e w' => e = .returned (.int .i64 (digs Q)) ∧ Up w w' := by
  obtain ⟨D, hD⟩ : ∃ D, digs Q = D := ⟨_, rfl⟩
  have HD := hid hD
  have hD16 : D ≤ 16 := by rw [← hD]; exact digs_le Q
  obtain ⟨k0, hk0⟩ : ∃ k0 : Nat, Q - 1 = k0 := ⟨(Q - 1).toNat, by omega⟩
  have HK : Hid (hexlen 16 k0 = D) := hid (by rw [← hD, digs, hk0, Int.toNat_natCast])
  have HQ : Hid (Q - 1 = (k0 : Int)) := hid hk0
  have hk : k0 < 2305843009213693952 := by omega
  rw [hD]
  clear hD hk0
  go_enter Tryd.func99, Tryd.ntmps99
  go_wp2_with fail
  rw [HQ.out]
  go_loopw [3, 4] (fun vn vk wr => ∃ c f k : Nat, vn = .int .i64 c ∧ vk = .int .i64 k ∧ Hid (c + hexlen f k = D) ∧ Hid (k < 16 ^ f) ∧ k ≤ k0 ∧ Up w wr) (fun _ vk _ => (intOf vk).toNat)
  case atStart => exact ⟨0, 16, k0, rfl, rfl, hid (by rw [HK.out]; omega), hid (by omega), Nat.le_refl _, (Up.refl w).alloc _⟩
  case round =>
    obtain ⟨c, f, k, rfl, rfl, HS, HL, hkk, hU⟩ := hrel
    by_cases hz : k = 0
    · subst hz
      have HE : Hid (D = c) := hid (by rw [← HS.out, hexlen_zero]; rfl)
      go_wp2
      go_ret
      exact ⟨by rw [HE.out]; rfl, hU⟩
    · obtain ⟨g, rfl, h1, h2⟩ := hexlen_step hz HL.out
      have HS2 : Hid (c + 1 + hexlen g (k / 16) = D) := hid (by rw [← HS.out, h2]; omega)
      have HL2 := hid h1
      have hc : c < 16 := by
        have := HS.out
        rw [h2] at this
        omega
      have d1 : decide (0 < k) = true := by simp; omega
      have hlt : k / 16 < k := by omega
      clear h1 h2 HS HL
      go_wp2_with fail
      go_roundw
      case rel => exact ⟨c + 1, g, k / 16, by go_num, by go_num, HS2, HL2, by omega, hU⟩
      case measure => simp [intOf]; omega
theorem rDigits_ok (P Q G : Int) (w : World) (hQ1 : 1 ≤ Q) (hQ : Q < 2305843009213693952) :
    Calls Tryd.prog 100 #[grp P Q G] w fun e w' => e = .returned (.int .i64 (digs Q)) ∧ Up w w' := by
  obtain ⟨D, hD⟩ : ∃ D, digs Q = D := ⟨_, rfl⟩
  have HD := hid hD
  have hD16 : D ≤ 16 := by rw [← hD]; exact digs_le Q
  obtain ⟨k0, hk0⟩ : ∃ k0 : Nat, Q - 1 = k0 := ⟨(Q - 1).toNat, by omega⟩
  have HK : Hid (hexlen 16 k0 = D) := hid (by rw [← hD, digs, hk0, Int.toNat_natCast])
  have HQ : Hid (Q - 1 = (k0 : Int)) := hid hk0
  have hk : k0 < 2305843009213693952 := by omega
  rw [hD]
  clear hD hk0
  go_enter Tryd.func100, Tryd.ntmps100
  go_wp2_with fail
  rw [HQ.out]
  go_loopw [3, 4] (fun vn vk wr => ∃ c f k : Nat, vn = .int .i64 c ∧ vk = .int .i64 k ∧ Hid (c + hexlen f k = D) ∧ Hid (k < 16 ^ f) ∧ k ≤ k0 ∧ Up w wr) (fun _ vk _ => (intOf vk).toNat)
  case atStart => exact ⟨0, 16, k0, rfl, rfl, hid (by rw [HK.out]; omega), hid (by omega), Nat.le_refl _, (Up.refl w).alloc _⟩
  case round =>
    obtain ⟨c, f, k, rfl, rfl, HS, HL, hkk, hU⟩ := hrel
    by_cases hz : k = 0
    · subst hz
      have HE : Hid (D = c) := hid (by rw [← HS.out, hexlen_zero]; rfl)
      go_wp2
      go_ret
      exact ⟨by rw [HE.out]; rfl, hU⟩
    · obtain ⟨g, rfl, h1, h2⟩ := hexlen_step hz HL.out
      have HS2 : Hid (c + 1 + hexlen g (k / 16) = D) := hid (by rw [← HS.out, h2]; omega)
      have HL2 := hid h1
      have hc : c < 16 := by
        have := HS.out
        rw [h2] at this
        omega
      have d1 : decide (0 < k) = true := by simp; omega
      have hlt : k / 16 < k := by omega
      clear h1 h2 HS HL
      go_wp2_with fail
      go_roundw
      case rel => exact ⟨c + 1, g, k / 16, by go_num, by go_num, HS2, HL2, by omega, hU⟩
      case measure => simp [intOf]; omega

/-- A block that is known whole. -/
def BoxAt (w : World) (g : Nat) (t : TypeId) (cs : Array Value) : Prop := w.heap[g]? = some (.cells cs t (0, 0))

section
variable {w w' : World} {g : Nat} {t : TypeId} {cs : Array Value}
theorem BoxAt.lt (h : BoxAt w g t cs) : g < w.heap.size := (Array.getElem?_eq_some_iff.1 h).1
theorem BoxAt.read (h : BoxAt w g t cs) (i : Nat) : w.cell? ⟨g, i, none⟩ = cs[i]? := by
  have h1 : w.heap[g]? = some (.cells cs t (0, 0)) := h
  simp [World.cell?, h1]
theorem BoxAt.val (h : BoxAt w g t cs) {i : Nat} {v : Value} (hv : cs[i]? = some v) : w.cell? ⟨g, i, none⟩ = some v := by rw [h.read i]; exact hv
theorem BoxAt.thawed (h : BoxAt w g t cs) (i : Nat) : w.frozen? ⟨g, i, none⟩ = false := by
  have h1 : w.heap[g]? = some (.cells cs t (0, 0)) := h
  simp [World.frozen?, h1]
theorem BoxAt.up (h : BoxAt w g t cs) (hU : Up w w') : BoxAt w' g t cs := (hU.block h.lt).trans h
theorem BoxAt.alloc (h : BoxAt w g t cs) (o : Obj) : BoxAt (w.alloc o) g t cs := h.up ((Up.refl w).alloc o)
theorem BoxAt.new (w : World) (t : TypeId) (cs : Array Value) : BoxAt (w.alloc (.cells cs t)) w.heap.size t cs := alloc_at w _ _ rfl
theorem BoxAt.grew {row : Option Nat} (h : BoxAt w g t cs) (hg : w.grownBy w' row) (hr : some g ≠ row) : BoxAt w' g t cs := (hg.block g h.lt hr).trans h
theorem BoxAt.below {B : Nat} (h : BoxAt w g t cs) (hb : Below B w w') (hg : g < B) : BoxAt w' g t cs := (hb.block g hg).trans h
theorem BoxAt.apart (h : BoxAt w g t cs) {a : Addr} (ha : g ≠ a.block) (v : Value) : BoxAt (w.setCell a v) g t cs := (Below.heap_setCell w a v g ha).trans h
theorem BoxAt.wrote (h : BoxAt w g t cs) (i : Nat) (v : Value) : BoxAt (w.setCell ⟨g, i, none⟩ v) g t (cs.setIfInBounds i v) := by
  have h1 : w.heap[g]? = some (.cells cs t (0, 0)) := h
  unfold BoxAt
  simp [World.setCell, Array.getElem?_modify, h1]
end

theorem GrpAt.apart {w : World} {b : Nat} {P Q G : Int} (h : GrpAt w b P Q G) {a : Addr} (ha : b ≠ a.block) (v : Value) : GrpAt (w.setCell a v) b P Q G := by
  have hk := Below.heap_setCell w a v b ha
  exact ⟨by rw [World.cell?_of_block hk]; exact h.1, by rw [World.cell?_of_block hk]; exact h.2.1, by rw [World.cell?_of_block hk]; exact h.2.2⟩

theorem OwnI.keep {w w' : World} {base : Nat} {v : Value} {xs : List Int} (h : OwnI w base v xs) (hk : ∀ k, base ≤ k → k < w.heap.size → w'.heap[k]? = w.heap[k]?) : OwnI w' base v xs := by
  refine ⟨h.1, ?_⟩
  rcases h.2 with hn | ⟨g, cap, cur, rfl, hb, hgg, rest⟩
  · exact .inl hn
  · refine .inr ⟨g, cap, cur, rfl, hb, ?_, rest⟩
    rw [hk g hb (Array.getElem?_eq_some_iff.1 hgg).1]
    exact hgg

theorem OwnI.apart {w : World} {base : Nat} {v : Value} {xs : List Int} (h : OwnI w base v xs) {a : Addr} (ha : a.block < base) (u : Value) : OwnI (w.setCell a u) base v xs :=
  h.keep fun k hk _ => Below.heap_setCell w a u k (by omega)
end Go.Proofs.YtldodbffdegmiaaDoor
