/- Powers by a table. -/
import Derived.Test.YtldodbffdegmiaaDoorTabE
namespace Go.Proofs.YtldodbffdegmiaaDoor
open Go.RowKit Go.Sp
set_option maxHeartbeats 2000000
set_option maxRecDepth 20000

theorem i64_and15 (n : Int) : bits .and .i64 n 15 = n % 16 := by
  have h1 : (BitVec.ofInt 64 15).toNat = 2 ^ 4 - 1 := by decide
  have key : (BitVec.ofInt 64 n &&& BitVec.ofInt 64 15).toNat = (n % ((2 ^ 64 : Nat) : Int)).toNat % 2 ^ 4 := by
    rw [BitVec.toNat_and, BitVec.toNat_ofInt, h1, Nat.and_two_pow_sub_one_eq_mod]
  show IntKind.i64.wrap ((BitVec.ofInt 64 n &&& BitVec.ofInt 64 15).toNat : Nat) = n % 16
  rw [key, IntKind.wrap_i64]
  omega

/-- The error of a power by a table. -/
def tpE (P Q G b : Int) (L : List Int) (x : Int) : Int := if vtB P Q G b L = true then (if exB Q x = true then 0 else 2) else 1
def tpV (P Q G b : Int) (L : List Int) (x : Int) : Int := if tpE P Q G b L x = 0 then gpw P Q b x else 0

theorem tPower_any (P Q G b x : Int) (u : Value) (L : List Int) (w : World) (hP : -9223372036854775808 ≤ P) (hQ : Q ≤ 9223372036854775807) (hT : Tab w) (hu : IntsAt w u L) :
    Calls Tryd.prog 53 #[grp P Q G, tabV b u, .int .i64 x] w fun e w' => e = .returned (.tuple #[.int .i64 (tpV P Q G b L x), .int .i64 (tpE P Q G b L x)]) ∧ Up w w' := by
  have HT := hid hT
  have HI := hid hu
  have HE : Hid (tpE P Q G b L x = if vtB P Q G b L = true then (if exB Q x = true then 0 else 2) else 1) := hid rfl
  have HV : Hid (tpV P Q G b L x = if tpE P Q G b L x = 0 then gpw P Q b x else 0) := hid rfl
  generalize tpE P Q G b L x = E at *
  generalize tpV P Q G b L x = V at *
  have HVt := hid (fun w' (hU : Up w w') => ValidTable_any P Q G b u L w' hP hQ (hT.up hU) (hu.up hU))
  have HB : Hid (vtB P Q G b L = (conB P Q G b && (tabL P (digs Q) b == L))) := hid rfl
  obtain ⟨X, hX⟩ : ∃ X, vtB P Q G b L = X := ⟨_, rfl⟩
  rw [hX] at HE HVt HB
  obtain ⟨l1, a1, cp1, rfl, hc1⟩ := hu
  have HC1 := hid hc1
  obtain ⟨n, hn⟩ : ∃ n, L.length = n := ⟨_, rfl⟩
  have HN := hid hn
  rw [hn] at HI HVt l1
  rw [hn]
  clear hT hn hX hc1
  go_enter Tryd.func53, Tryd.ntmps53
  go_wp2_with fail
  have HGb := hid (box_reads (w := w) (P := P) (Q := Q) (G := G) rfl ((Up.refl _).alloc (.cells #[.int .i64 b, .slice a1 n cp1] 58)))
  have HBx := hid (second_box (w := w) (o := .cells #[.int .i64 P, .int .i64 Q, .int .i64 G] 23) (t := 58) (cs := #[.int .i64 b, .slice a1 n cp1]) (Up.refl _))
  refine (HVt.out _ (((Up.refl w).alloc _).alloc _)).mono ?_
  rintro e w1 ⟨rfl, hU1⟩
  have HG1 := hid (HGb.out.up hU1)
  have HB1 := hid (HBx.out.up hU1)
  have HU1 := hid ((((Up.refl w).alloc _).alloc _).trans hU1)
  clear hU1 HGb HBx
  cases X
  case false =>
    have hE : E = 1 := HE.out
    have hV : V = 0 := by rw [HV.out, hE]; rfl
    subst hE hV
    go_wp2
    go_ret2
    exact ⟨rfl, HU1.out⟩
  have HE2 : Hid (E = if exB Q x = true then 0 else 2) := hid (by rw [HE.out, if_pos rfl])
  obtain ⟨hcon, htab⟩ : conB P Q G b = true ∧ (tabL P (digs Q) b == L) = true := by
    have := HB.out
    rw [eq_comm, Bool.and_eq_true] at this
    exact this
  obtain ⟨hg, hb⟩ : gvB P Q G = true ∧ elB P Q b = true := by simpa [conB] using hcon
  have htab := eq_of_beq htab
  have g := gv_iff.1 hg
  have g1 := g.P61
  have g2 := g.P4
  have g3 := g.Q3
  have g4 := g.QP
  have Hg := hid hg
  have Hb := hid hb
  obtain ⟨c0, c1, c2⟩ := HG1.out
  by_cases h0 : 0 ≤ x
  case neg =>
    have hE : E = 2 := by rw [HE2.out, if_neg (by simp [exB]; omega)]
    have hV : V = 0 := by rw [HV.out, hE]; rfl
    have d : decide (x < 0) = true := by simp; omega
    subst hE hV
    clear hcon htab hg hb g
    go_wp2
    go_ret2
    exact ⟨rfl, HU1.out⟩
  have d0 : decide (x < 0) = false := by simp; omega
  by_cases hq : x < Q
  case neg =>
    have hE : E = 2 := by rw [HE2.out, if_neg (by simp [exB]; omega)]
    have hV : V = 0 := by rw [HV.out, hE]; rfl
    have d : decide (Q ≤ x) = true := by simp; omega
    subst hE hV
    clear hcon htab hg hb g
    go_wp2
    go_ret2
    exact ⟨rfl, HU1.out⟩
  have d1 : decide (Q ≤ x) = false := by simp; omega
  have hE : E = 0 := by rw [HE2.out, if_pos (exB_iff.2 ⟨h0, hq⟩)]
  have hV : V = gpw P Q b x := by rw [HV.out, hE]; rfl
  subst hE
  obtain ⟨x, rfl⟩ := Int.eq_ofNat_of_zero_le h0
  have HVp : Hid (digPow P b 0 x 1 = V) := hid (by rw [hV]; exact digPow_start (by omega) hb hq)
  obtain ⟨D, hD⟩ : ∃ D, digs Q = D := ⟨_, rfl⟩
  have hD16 : D ≤ 16 := by rw [← hD]; exact digs_le Q
  have HL : Hid (L = tabL P D b) := hid (by rw [← htab, hD])
  have hx16 : x < 16 ^ 16 := by omega
  have HXL : Hid (0 + hexlen 16 x ≤ D) := hid (by
    rw [← hD, digs, Nat.zero_add]
    exact hexlen_mono 16 x (Q - 1).toNat (by omega))
  have HX16 := hid hx16
  have hn16 : n = 16 * D := by rw [← HN.out, HL.out, tabL_len]
  have HN16 := hid hn16
  have hnb : n ≤ 256 := by omega
  obtain ⟨o, ho⟩ : ∃ o, w.heap.size = o := ⟨_, rfl⟩
  rw [ho] at HG1 HB1
  rw [ho]
  clear hV hcon htab hg hb g hD ho hn16 hx16 c0 c1 c2 HE HE2 HV
  obtain ⟨c0, c1, c2⟩ := HG1.out
  go_wp2_with fail
  clear c0 c1 c2
  go_loopw [2, 8, 9] (fun ve vo vj wr => ∃ (e j f : Nat) (a : Int), ve = .int .i64 e ∧ vo = .int .i64 a ∧ vj = .int .i64 j ∧ e ≤ x ∧ j + f = 16 ∧ Hid (digPow P b j e a = V) ∧ Hid (elB P Q a = true) ∧ Hid (e < 16 ^ f) ∧ Hid (j + hexlen f e ≤ D) ∧ Hid (Up w1 wr)) (fun ve _ _ _ => (intOf ve).toNat)
  case atStart => exact ⟨x, 0, 16, 1, rfl, rfl, rfl, by omega, by omega, HVp, hid (el_one (by omega)), HX16, HXL, hid (Up.refl w1)⟩
  case round =>
    obtain ⟨e, j, f, a, rfl, rfl, rfl, hex, hjf, HD, HA, HLe, HLn, HU⟩ := hrel
    obtain ⟨c0, c1, c2⟩ := HG1.out.up HU.out
    have HBr := HB1.out.up HU.out
    have k1 := HBr.val (i := 1) (v := .slice a1 n cp1) rfl
    clear HBr
    by_cases hz : e = 0
    · subst hz
      have HE2 : Hid (V = a) := hid (by rw [← HD.out, digPow_end HA.out (by omega)])
      go_wp2
      go_ret2
      exact ⟨by rw [HE2.out]; rfl, HU1.out.trans HU.out⟩
    · obtain ⟨gf, rfl, h1, h2⟩ := hexlen_step hz HLe.out
      have hjD : j + 1 + hexlen gf (e / 16) ≤ D := by have := HLn.out; rw [h2] at this; omega
      have hjD2 : j < D := by omega
      have hidx : 16 * j + e % 16 < L.length := by rw [HN.out, HN16.out]; omega
      have hidx2 : 16 * j + e % 16 < n := by rw [HN16.out]; omega
      obtain ⟨b1, o1, rfl, r1⟩ := ints_cell HC1.out (HU1.out.trans HU.out) hidx
      have hval : L.getD (16 * j + e % 16) 0 = pw (pw b (16 ^ j) P) (e % 16) P := by
        rw [HL.out]
        exact tabL_get P D b j (e % 16) hjD2 (Nat.mod_lt _ (by omega))
      have hye : elB P Q (pw (pw b (16 ^ j) P) (e % 16) P) = true := el_pw (by omega) (by omega) (el_pw (by omega) (by omega) Hb.out _) _
      have HD2 : Hid (digPow P b (j + 1) (e / 16) (a * pw (pw b (16 ^ j) P) (e % 16) P % P) = V) := hid (by rw [digPow_step]; exact HD.out)
      rw [hval] at r1
      have HYe := hid hye
      have HAn := hid (el_mul (by omega) (by omega) HA.out hye)
      have HL1 := hid h1
      have HL2 := hid hjD
      have hz2 : decide (0 < e) = true := by simp; omega
      generalize pw (pw b (16 ^ j) P) (e % 16) P = y at *
      have a15 : bits .and .i64 (e : Int) 15 = (e : Int) % 16 := i64_and15 _
      have he16 : e / 16 < e := by omega
      have hxb : x < 2305843009213693952 := by omega
      clear h1 h2 hval hye hz hidx HD HLe HLn hjD
      go_wp2_with fail
      have f0 := cellF c0
      have f1 := cellF c1
      have f2 := cellF c2
      have f3 := cellF k1
      have f4 := cellF r1
      have w1 : IntKind.i64.wrap (16 * (j : Int)) = 16 * (j : Int) := IntWalk.i64_in _ (by omega)
      have w2 : IntKind.i64.wrap (16 * (j : Int) + (e : Int) % 16) = 16 * (j : Int) + (e : Int) % 16 := IntWalk.i64_in _ (by omega)
      have hi0 : (0 : Int) ≤ 16 * (j : Int) + (e : Int) % 16 := by omega
      have hi1 : 16 * (j : Int) + (e : Int) % 16 < (n : Int) := by omega
      have hi2 : (16 * (j : Int) + (e : Int) % 16).toNat = 16 * j + e % 16 := by omega
      refine wp_region_up (by kernel_rfl) (by kernel_rfl) ?_
      repeat (go_big_quiet_step ((first
        | (go_at_call 22; exact Calls.up_of (gMul_ok P Q G a y _ hQ (HT.out.up (HU1.out.trans (HU.out.trans (UpFrom.up _)))) Hg.out HA.out HYe.out)))))
      refine wpQuiet_nil ?_
      rintro _ ⟨u, rfl⟩
      have HU3 := hid (HU.out.trans u.up)
      clear f0 f1 f2 f3 f4 w1 w2 hi0 hi1 hi2 a15
      go_wp2_with fail
      go_roundw
      case rel => exact ⟨e / 16, j + 1, gf, _, by go_num, rfl, by go_num, by omega, by omega, HD2, HAn, HL1, HL2, HU3⟩
      case measure => simp [intOf]; omega
end Go.Proofs.YtldodbffdegmiaaDoor
