/- ProductTables: the walk. -/
import Derived.Test.YtldodbffdegmiaaDoorTabF
import Derived.Test.YtldodbffdegmiaaDoorAwakeTwelve
namespace Go.Proofs.YtldodbffdegmiaaDoor
open Go.RowKit Go.Sp
set_option maxHeartbeats 4000000
set_option maxRecDepth 20000

def TabAnyOut (P Q G b : Int) (w : World) (e : Ending) (w' : World) : Prop :=
  ∃ (b' E : Int) (p : Option Addr) (m c : Nat), e = .returned (.tuple #[tabV b' (.slice p m c), .int .i64 E]) ∧ Hid ((gvB P Q G = false → b' = 0 ∧ E = 1 ∧ m = 0) ∧ (gvB P Q G = true → elB P Q b = false → b' = 0 ∧ E = 2 ∧ m = 0) ∧
    (gvB P Q G = true → elB P Q b = true → b' = b ∧ E = 0 ∧ IntsAt w' (.slice p m c) (tabL P (digs Q) b))) ∧ Up w w'

theorem Table_any (P Q G b : Int) (w : World) (hP : -9223372036854775808 ≤ P) (hQ : Q ≤ 9223372036854775807) (hT : Tab w) :
    Calls Tryd.prog 51 #[grp P Q G, .int .i64 b] w (TabAnyOut P Q G b w) := by
  by_cases hg : gvB P Q G = true
  · by_cases hb : elB P Q b = true
    · refine (Table_ok P Q G b w hT hg hb).mono ?_
      rintro e w' ⟨v, rfl, hO, hU⟩
      have hI := hO.ints
      obtain ⟨p, m, c, rfl⟩ := hO.slice
      exact ⟨b, 0, p, m, c, rfl, hid ⟨(fun h => by rw [hg] at h; cases h), (fun _ h => by rw [hb] at h; cases h), fun _ _ => ⟨rfl, rfl, hI⟩⟩, hU⟩
    · have hb' : elB P Q b = false := by simpa using hb
      refine (Table_range P Q G b w hT hg hb').mono ?_
      rintro e w' ⟨rfl, hU⟩
      exact ⟨0, 2, none, 0, 0, rfl, hid ⟨(fun h => by rw [hg] at h; cases h), fun _ _ => ⟨rfl, rfl, rfl⟩, fun _ h => absurd h hb⟩, hU⟩
  · have hg' : gvB P Q G = false := by simpa using hg
    refine (Table_arg P Q G b w hP hQ hT hg').mono ?_
    rintro e w' ⟨rfl, hU⟩
    exact ⟨0, 1, none, 0, 0, rfl, hid ⟨fun _ => ⟨rfl, rfl, rfl⟩, fun h => absurd h hg, fun h => absurd h hg⟩, hU⟩

theorem ProductTables_walk (P Q G b tb x : Int) (u : Value) (L : List Int) (w : World) (hP : -9223372036854775808 ≤ P) (hQ : Q ≤ 9223372036854775807) (hT : Tab w) (hu : IntsAt w u L) :
    Calls Tryd.prog 11 #[grp P Q G, .int .i64 b, tabV tb u, .int .i64 x] w fun e w' => e = .returned (.bool true) ∧ Up w w' := by
  have HT := hid hT
  have HVt := hid (fun w' (hU : Up w w') => ValidTable_any P Q G tb u L w' hP hQ (hT.up hU) (hu.up hU))
  have HRv := hid (fun w' (hU : Up w w') => rValidTable_any P Q G tb u L w' hP hQ (hu.up hU))
  have HPw := hid (fun w' (hU : Up w w') => tPower_any P Q G tb x u L w' hP hQ (hT.up hU) (hu.up hU))
  have HB : Hid (vtB P Q G tb L = (conB P Q G tb && (tabL P (digs Q) tb == L))) := hid rfl
  obtain ⟨X, hX⟩ : ∃ X, vtB P Q G tb L = X := ⟨_, rfl⟩
  obtain ⟨E, hE⟩ : ∃ E, tpE P Q G tb L x = E := ⟨_, rfl⟩
  obtain ⟨V, hV⟩ : ∃ V, tpV P Q G tb L x = V := ⟨_, rfl⟩
  have HE : Hid (E = if X = true then (if exB Q x = true then 0 else 2) else 1) := hid (by rw [← hE, tpE, hX])
  have HV : Hid (V = if E = 0 then gpw P Q tb x else 0) := hid (by rw [← hV, tpV, hE])
  rw [hX] at HVt HRv HB
  rw [hE, hV] at HPw
  obtain ⟨l1, a1, cp1, rfl, _⟩ := hu
  generalize L.length = n at *
  clear hT hX hE hV
  go_enter Tryd.func11, Tryd.ntmps11
  go_wp2_with fail
  have HGb := hid (box_reads (w := w) (P := P) (Q := Q) (G := G) rfl ((Up.refl _).alloc (.cells #[.int .i64 tb, .slice a1 n cp1] 58)))
  have HBx := hid (second_box (w := w) (o := .cells #[.int .i64 P, .int .i64 Q, .int .i64 G] 23) (t := 58) (cs := #[.int .i64 tb, .slice a1 n cp1]) (Up.refl _))
  refine (awake12 _ (HT.out.up (((Up.refl w).alloc _).alloc _))).mono ?_
  rintro e w1 ⟨rfl, hU1⟩
  have HG1 := hid (HGb.out.up hU1)
  have HB1 := hid (HBx.out.up hU1)
  have HU1 := hid ((((Up.refl w).alloc _).alloc _).trans hU1)
  clear hU1 HGb HBx
  obtain ⟨c0, c1, c2⟩ := HG1.out
  have k0 := HB1.out.val (i := 0) (v := .int .i64 tb) rfl
  have k1 := HB1.out.val (i := 1) (v := .slice a1 n cp1) rfl
  by_cases hbig : 400 < n
  case pos =>
    have d1 : decide (400 < n) = true := by simpa using hbig
    go_wp2
    go_ret
    exact ⟨rfl, HU1.out⟩
  have d1 : decide (400 < n) = false := by simpa using hbig
  go_wp2_with fail
  refine (Table_any P Q G b _ hP hQ (HT.out.up HU1.out)).mono ?_
  rintro e w2 ⟨ab, ae, ap, am, ac, rfl, HTa, hU2⟩
  have HG2 := hid (HG1.out.up hU2)
  have HB2 := hid (HB1.out.up hU2)
  have HU2 := hid (HU1.out.trans hU2)
  clear hU2 c0 c1 c2 k0 k1 HG1 HB1
  obtain ⟨c0, c1, c2⟩ := HG2.out
  have k0 := HB2.out.val (i := 0) (v := .int .i64 tb) rfl
  have k1 := HB2.out.val (i := 1) (v := .slice a1 n cp1) rfl
  have s0 := cell_lt c0
  have s1 := cell_lt k0
  have HTb : Hid ((gvB P Q G = false → ab = 0 ∧ ae = 1 ∧ am = 0) ∧ (gvB P Q G = true → elB P Q b = false → ab = 0 ∧ ae = 2 ∧ am = 0) ∧
    (gvB P Q G = true → elB P Q b = true → ab = b ∧ ae = 0 ∧ IntsAt (w2.alloc (.cells #[.int .i64 ab, .slice ap am ac] 58)) (.slice ap am ac) (tabL P (digs Q) b))) := hid ⟨HTa.out.1, HTa.out.2.1, fun h1 h2 => ⟨(HTa.out.2.2 h1 h2).1, (HTa.out.2.2 h1 h2).2.1, (HTa.out.2.2 h1 h2).2.2.up ((Up.refl w2).alloc _)⟩⟩
  go_wp2_with fail
  have HW2 := hid (BoxAt.new w2 58 #[.int .i64 ab, .slice ap am ac])
  have HG2b := hid (HG2.out.up ((Up.refl w2).alloc (.cells #[.int .i64 ab, .slice ap am ac] 58)))
  have HB2b := hid (HB2.out.alloc (.cells #[.int .i64 ab, .slice ap am ac] 58))
  have HU2b := hid (HU2.out.alloc (.cells #[.int .i64 ab, .slice ap am ac] 58))
  obtain ⟨o, ho⟩ : ∃ o, w.heap.size = o := ⟨_, rfl⟩
  rw [ho] at HG2b HB2b
  rw [ho]
  obtain ⟨q, hq⟩ : ∃ q, w2.heap.size = q := ⟨_, rfl⟩
  rw [hq] at HW2
  rw [hq]
  obtain ⟨w3, hw3⟩ : ∃ w3, w2.alloc (.cells #[.int .i64 ab, .slice ap am ac] 58) = w3 := ⟨_, rfl⟩
  rw [hw3] at HW2 HG2b HB2b HU2b HTb
  rw [hw3]
  clear ho hq hw3 c0 c1 c2 k0 k1 s0 s1 HG2 HB2 HU2 HTa
  have HG3 := HG2b
  have HB3 := HB2b
  have HW3 := HW2
  have HU3 := HU2b
  have HS3 := hid (Up.refl w3)
  clear HG2b HB2b HW2 HU2b
  obtain ⟨c0, c1, c2⟩ := HG3.out
  have k0 := HB3.out.val (i := 0) (v := .int .i64 tb) rfl
  have k1 := HB3.out.val (i := 1) (v := .slice a1 n cp1) rfl
  have m0 := HW3.out.val (i := 0) (v := .int .i64 ab) rfl
  have m1 := HW3.out.val (i := 1) (v := .slice ap am ac) rfl
  go_wp2_with fail
  refine (HRv.out _ HU3.out).mono ?_
  rintro e w4 ⟨rfl, hU4⟩
  have HG4 := hid (HG3.out.up hU4)
  have HB4 := hid (HB3.out.up hU4)
  have HW4 := hid (HW3.out.up hU4)
  have HU4 := hid (HU3.out.trans hU4)
  have HS4 := hid (HS3.out.trans hU4)
  clear hU4 c0 c1 c2 k0 k1 m0 m1
  obtain ⟨c0, c1, c2⟩ := HG4.out
  have k0 := HB4.out.val (i := 0) (v := .int .i64 tb) rfl
  have k1 := HB4.out.val (i := 1) (v := .slice a1 n cp1) rfl
  have m0 := HW4.out.val (i := 0) (v := .int .i64 ab) rfl
  have m1 := HW4.out.val (i := 1) (v := .slice ap am ac) rfl
  go_wp2_with fail
  refine (HPw.out _ HU4.out).mono ?_
  rintro e w5 ⟨rfl, hU5⟩
  have HG5 := hid (HG4.out.up hU5)
  have HB5 := hid (HB4.out.up hU5)
  have HW5 := hid (HW4.out.up hU5)
  have HU5 := hid (HU4.out.trans hU5)
  have HS5 := hid (HS4.out.trans hU5)
  clear hU5 c0 c1 c2 k0 k1 m0 m1
  obtain ⟨c0, c1, c2⟩ := HG5.out
  have k0 := HB5.out.val (i := 0) (v := .int .i64 tb) rfl
  have k1 := HB5.out.val (i := 1) (v := .slice a1 n cp1) rfl
  have m0 := HW5.out.val (i := 0) (v := .int .i64 ab) rfl
  have m1 := HW5.out.val (i := 1) (v := .slice ap am ac) rfl
  go_wp2_with fail
  refine (HVt.out _ HU5.out).mono ?_
  rintro e w6 ⟨rfl, hU6⟩
  have HG6 := hid (HG5.out.up hU6)
  have HB6 := hid (HB5.out.up hU6)
  have HW6 := hid (HW5.out.up hU6)
  have HU6 := hid (HU5.out.trans hU6)
  have HS6 := hid (HS5.out.trans hU6)
  clear hU6 c0 c1 c2 k0 k1 m0 m1
  obtain ⟨c0, c1, c2⟩ := HG6.out
  have k0 := HB6.out.val (i := 0) (v := .int .i64 tb) rfl
  have k1 := HB6.out.val (i := 1) (v := .slice a1 n cp1) rfl
  have m0 := HW6.out.val (i := 0) (v := .int .i64 ab) rfl
  have m1 := HW6.out.val (i := 1) (v := .slice ap am ac) rfl
  cases X
  case false =>
    have hE : E = 1 := HE.out
    have hV : V = 0 := by rw [HV.out, hE]; rfl
    subst hE hV
    go_wp2_with fail
    refine (rValid_any P Q G _ hP hQ).mono ?_
    rintro e w8 ⟨rfl, hU8⟩
    have HG8 := hid (HG6.out.up hU8)
    have HB8 := hid (HB6.out.up hU8)
    have HW8 := hid (HW6.out.up hU8)
    have HU8 := hid (HU6.out.trans hU8)
    have HS8 := hid (HS6.out.trans hU8)
    clear hU8 c0 c1 c2 k0 k1 m0 m1
    obtain ⟨c0, c1, c2⟩ := HG8.out
    have k0 := HB8.out.val (i := 0) (v := .int .i64 tb) rfl
    have k1 := HB8.out.val (i := 1) (v := .slice a1 n cp1) rfl
    have m0 := HW8.out.val (i := 0) (v := .int .i64 ab) rfl
    have m1 := HW8.out.val (i := 1) (v := .slice ap am ac) rfl
    by_cases hg : gvB P Q G = true
    case neg =>
      have hg' : gvB P Q G = false := by simpa using hg
      obtain ⟨rfl, rfl, rfl⟩ := HTb.out.1 hg'
      rw [hg']
      clear hg hg'
      go_wp2
      go_ret
      exact ⟨rfl, HU8.out⟩
    have Hg := hid hg
    have g := gv_iff.1 hg
    have g1 := g.P61
    have g2 := g.P4
    have g3 := g.Q3
    rw [hg]
    clear hg g
    go_wp2_with fail
    refine (rMember_any P Q G b _ g1 (by omega) hQ).mono ?_
    rintro e w9 ⟨rfl, hU9⟩
    have HG9 := hid (HG8.out.up hU9)
    have HB9 := hid (HB8.out.up hU9)
    have HW9 := hid (HW8.out.up hU9)
    have HU9 := hid (HU8.out.trans hU9)
    have HS9 := hid (HS8.out.trans hU9)
    clear hU9 c0 c1 c2 k0 k1 m0 m1
    obtain ⟨c0, c1, c2⟩ := HG9.out
    have k0 := HB9.out.val (i := 0) (v := .int .i64 tb) rfl
    have k1 := HB9.out.val (i := 1) (v := .slice a1 n cp1) rfl
    have m0 := HW9.out.val (i := 0) (v := .int .i64 ab) rfl
    have m1 := HW9.out.val (i := 1) (v := .slice ap am ac) rfl
    by_cases hb : elB P Q b = true
    case neg =>
      have hb' : elB P Q b = false := by simpa using hb
      obtain ⟨rfl, rfl, rfl⟩ := HTb.out.2.1 Hg.out hb'
      rw [hb']
      clear hb hb'
      go_wp2
      go_ret
      exact ⟨rfl, HU9.out⟩
    have Hb := hid hb
    obtain ⟨rfl, rfl, hi⟩ := HTb.out.2.2 Hg.out hb
    have HI := hid hi
    rw [hb]
    clear hb hi
    go_wp2_with fail
    refine (rTable_ok P Q G ab _ Hg.out Hb.out).mono ?_
    rintro e w10 ⟨v, rfl, hO, hU10⟩
    have HO := hid (hO.ints.up ((Up.refl w10).alloc (.cells #[.int .i64 ab, v] 58)))
    obtain ⟨pv, mv, cv, rfl⟩ := hO.slice
    have HG10 := hid (HG9.out.up hU10)
    have HB10 := hid (HB9.out.up hU10)
    have HW10 := hid (HW9.out.up hU10)
    have HU10 := hid (HU9.out.trans hU10)
    have HS10 := hid ((HS9.out.trans hU10).alloc (.cells #[.int .i64 ab, .slice pv mv cv] 58))
    clear hO hU10 c0 c1 c2 k0 k1 m0 m1
    obtain ⟨c0, c1, c2⟩ := HG10.out
    have k0 := HB10.out.val (i := 0) (v := .int .i64 tb) rfl
    have k1 := HB10.out.val (i := 1) (v := .slice a1 n cp1) rfl
    have m0 := HW10.out.val (i := 0) (v := .int .i64 ab) rfl
    have m1 := HW10.out.val (i := 1) (v := .slice ap am ac) rfl
    have s0 := cell_lt c0
    have s1 := cell_lt k0
    have s2 := cell_lt m0
    go_wp2_with fail
    refine (equal_any _ _ _ _ _ (HI.out.up HS10.out) HO.out).mono ?_
    rintro e w11 ⟨rfl, hU11⟩
    rw [show (tabL P (digs Q) ab == tabL P (digs Q) ab) = true by simp]
    go_wp2
    go_ret
    exact ⟨rfl, (HU10.out.alloc _).trans hU11⟩
  obtain ⟨hcon, _⟩ : conB P Q G tb = true ∧ (tabL P (digs Q) tb == L) = true := by
    have := HB.out
    rw [eq_comm, Bool.and_eq_true] at this
    exact this
  obtain ⟨hg, htb⟩ : gvB P Q G = true ∧ elB P Q tb = true := by simpa [conB] using hcon
  have g := gv_iff.1 hg
  have g1 := g.P61
  have g2 := g.P4
  have g3 := g.Q3
  have g4 := g.QP
  obtain ⟨t0, t1, _⟩ := el_iff.1 htb
  clear hcon hg htb g
  go_wp2_with fail
  refine (rExponent_any P Q G x _).mono ?_
  rintro e w7 ⟨rfl, hU7⟩
  have HG7 := hid (HG6.out.up hU7)
  have HB7 := hid (HB6.out.up hU7)
  have HW7 := hid (HW6.out.up hU7)
  have HU7 := hid (HU6.out.trans hU7)
  have HS7 := hid (HS6.out.trans hU7)
  clear hU7 c0 c1 c2 k0 k1 m0 m1
  obtain ⟨c0, c1, c2⟩ := HG7.out
  have k0 := HB7.out.val (i := 0) (v := .int .i64 tb) rfl
  have k1 := HB7.out.val (i := 1) (v := .slice a1 n cp1) rfl
  have m0 := HW7.out.val (i := 0) (v := .int .i64 ab) rfl
  have m1 := HW7.out.val (i := 1) (v := .slice ap am ac) rfl
  by_cases hx : exB Q x = true
  case neg =>
    have hx' : exB Q x = false := by simpa using hx
    have hE : E = 2 := by rw [HE.out]; simp [hx']
    have hV : V = 0 := by rw [HV.out, hE]; rfl
    subst hE hV
    rw [hx']
    clear hx hx'
    go_wp2_with fail
    refine (rValid_any P Q G _ hP hQ).mono ?_
    rintro e w8 ⟨rfl, hU8⟩
    have HG8 := hid (HG7.out.up hU8)
    have HB8 := hid (HB7.out.up hU8)
    have HW8 := hid (HW7.out.up hU8)
    have HU8 := hid (HU7.out.trans hU8)
    have HS8 := hid (HS7.out.trans hU8)
    clear hU8 c0 c1 c2 k0 k1 m0 m1
    obtain ⟨c0, c1, c2⟩ := HG8.out
    have k0 := HB8.out.val (i := 0) (v := .int .i64 tb) rfl
    have k1 := HB8.out.val (i := 1) (v := .slice a1 n cp1) rfl
    have m0 := HW8.out.val (i := 0) (v := .int .i64 ab) rfl
    have m1 := HW8.out.val (i := 1) (v := .slice ap am ac) rfl
    by_cases hg : gvB P Q G = true
    case neg =>
      have hg' : gvB P Q G = false := by simpa using hg
      obtain ⟨rfl, rfl, rfl⟩ := HTb.out.1 hg'
      rw [hg']
      clear hg hg'
      go_wp2
      go_ret
      exact ⟨rfl, HU8.out⟩
    have Hg := hid hg
    have g := gv_iff.1 hg
    have g1 := g.P61
    have g2 := g.P4
    have g3 := g.Q3
    rw [hg]
    clear hg g
    go_wp2_with fail
    refine (rMember_any P Q G b _ g1 (by omega) hQ).mono ?_
    rintro e w9 ⟨rfl, hU9⟩
    have HG9 := hid (HG8.out.up hU9)
    have HB9 := hid (HB8.out.up hU9)
    have HW9 := hid (HW8.out.up hU9)
    have HU9 := hid (HU8.out.trans hU9)
    have HS9 := hid (HS8.out.trans hU9)
    clear hU9 c0 c1 c2 k0 k1 m0 m1
    obtain ⟨c0, c1, c2⟩ := HG9.out
    have k0 := HB9.out.val (i := 0) (v := .int .i64 tb) rfl
    have k1 := HB9.out.val (i := 1) (v := .slice a1 n cp1) rfl
    have m0 := HW9.out.val (i := 0) (v := .int .i64 ab) rfl
    have m1 := HW9.out.val (i := 1) (v := .slice ap am ac) rfl
    by_cases hb : elB P Q b = true
    case neg =>
      have hb' : elB P Q b = false := by simpa using hb
      obtain ⟨rfl, rfl, rfl⟩ := HTb.out.2.1 Hg.out hb'
      rw [hb']
      clear hb hb'
      go_wp2
      go_ret
      exact ⟨rfl, HU9.out⟩
    have Hb := hid hb
    obtain ⟨rfl, rfl, hi⟩ := HTb.out.2.2 Hg.out hb
    have HI := hid hi
    rw [hb]
    clear hb hi
    go_wp2_with fail
    refine (rTable_ok P Q G ab _ Hg.out Hb.out).mono ?_
    rintro e w10 ⟨v, rfl, hO, hU10⟩
    have HO := hid (hO.ints.up ((Up.refl w10).alloc (.cells #[.int .i64 ab, v] 58)))
    obtain ⟨pv, mv, cv, rfl⟩ := hO.slice
    have HG10 := hid (HG9.out.up hU10)
    have HB10 := hid (HB9.out.up hU10)
    have HW10 := hid (HW9.out.up hU10)
    have HU10 := hid (HU9.out.trans hU10)
    have HS10 := hid ((HS9.out.trans hU10).alloc (.cells #[.int .i64 ab, .slice pv mv cv] 58))
    clear hO hU10 c0 c1 c2 k0 k1 m0 m1
    obtain ⟨c0, c1, c2⟩ := HG10.out
    have k0 := HB10.out.val (i := 0) (v := .int .i64 tb) rfl
    have k1 := HB10.out.val (i := 1) (v := .slice a1 n cp1) rfl
    have m0 := HW10.out.val (i := 0) (v := .int .i64 ab) rfl
    have m1 := HW10.out.val (i := 1) (v := .slice ap am ac) rfl
    have s0 := cell_lt c0
    have s1 := cell_lt k0
    have s2 := cell_lt m0
    go_wp2_with fail
    refine (equal_any _ _ _ _ _ (HI.out.up HS10.out) HO.out).mono ?_
    rintro e w11 ⟨rfl, hU11⟩
    rw [show (tabL P (digs Q) ab == tabL P (digs Q) ab) = true by simp]
    go_wp2
    go_ret
    exact ⟨rfl, (HU10.out.alloc _).trans hU11⟩
  obtain ⟨x0, x1⟩ := exB_iff.1 hx
  have hE : E = 0 := by rw [HE.out]; simp [hx]
  have hV : V = gpw P Q tb x := by rw [HV.out, hE]; rfl
  have HVV := hid hV
  subst hE
  rw [hx]
  clear hx hV HV
  go_wp2_with fail
  refine (rgPower_ok P Q G tb x _ (by omega) t1 (by omega) (by omega) g1 (by omega) (by omega)).mono ?_
  rintro e w77 ⟨rfl, hU77⟩
  rw [← HVV.out]
  have HG77 := hid (HG7.out.up hU77)
  have HB77 := hid (HB7.out.up hU77)
  have HW77 := hid (HW7.out.up hU77)
  have HU77 := hid (HU7.out.trans hU77)
  have HS77 := hid (HS7.out.trans hU77)
  clear hU77 c0 c1 c2 k0 k1 m0 m1
  obtain ⟨c0, c1, c2⟩ := HG77.out
  have k0 := HB77.out.val (i := 0) (v := .int .i64 tb) rfl
  have k1 := HB77.out.val (i := 1) (v := .slice a1 n cp1) rfl
  have m0 := HW77.out.val (i := 0) (v := .int .i64 ab) rfl
  have m1 := HW77.out.val (i := 1) (v := .slice ap am ac) rfl
  go_wp2_with fail
  refine (rValid_any P Q G _ hP hQ).mono ?_
  rintro e w8 ⟨rfl, hU8⟩
  have HG8 := hid (HG77.out.up hU8)
  have HB8 := hid (HB77.out.up hU8)
  have HW8 := hid (HW77.out.up hU8)
  have HU8 := hid (HU77.out.trans hU8)
  have HS8 := hid (HS77.out.trans hU8)
  clear hU8 c0 c1 c2 k0 k1 m0 m1
  obtain ⟨c0, c1, c2⟩ := HG8.out
  have k0 := HB8.out.val (i := 0) (v := .int .i64 tb) rfl
  have k1 := HB8.out.val (i := 1) (v := .slice a1 n cp1) rfl
  have m0 := HW8.out.val (i := 0) (v := .int .i64 ab) rfl
  have m1 := HW8.out.val (i := 1) (v := .slice ap am ac) rfl
  by_cases hg : gvB P Q G = true
  case neg =>
    have hg' : gvB P Q G = false := by simpa using hg
    obtain ⟨rfl, rfl, rfl⟩ := HTb.out.1 hg'
    rw [hg']
    clear hg hg'
    go_wp2
    go_ret
    exact ⟨rfl, HU8.out⟩
  have Hg := hid hg
  have g := gv_iff.1 hg
  have g1 := g.P61
  have g2 := g.P4
  have g3 := g.Q3
  rw [hg]
  clear hg g
  go_wp2_with fail
  refine (rMember_any P Q G b _ g1 (by omega) hQ).mono ?_
  rintro e w9 ⟨rfl, hU9⟩
  have HG9 := hid (HG8.out.up hU9)
  have HB9 := hid (HB8.out.up hU9)
  have HW9 := hid (HW8.out.up hU9)
  have HU9 := hid (HU8.out.trans hU9)
  have HS9 := hid (HS8.out.trans hU9)
  clear hU9 c0 c1 c2 k0 k1 m0 m1
  obtain ⟨c0, c1, c2⟩ := HG9.out
  have k0 := HB9.out.val (i := 0) (v := .int .i64 tb) rfl
  have k1 := HB9.out.val (i := 1) (v := .slice a1 n cp1) rfl
  have m0 := HW9.out.val (i := 0) (v := .int .i64 ab) rfl
  have m1 := HW9.out.val (i := 1) (v := .slice ap am ac) rfl
  by_cases hb : elB P Q b = true
  case neg =>
    have hb' : elB P Q b = false := by simpa using hb
    obtain ⟨rfl, rfl, rfl⟩ := HTb.out.2.1 Hg.out hb'
    rw [hb']
    clear hb hb'
    go_wp2
    go_ret
    exact ⟨rfl, HU9.out⟩
  have Hb := hid hb
  obtain ⟨rfl, rfl, hi⟩ := HTb.out.2.2 Hg.out hb
  have HI := hid hi
  rw [hb]
  clear hb hi
  go_wp2_with fail
  refine (rTable_ok P Q G ab _ Hg.out Hb.out).mono ?_
  rintro e w10 ⟨v, rfl, hO, hU10⟩
  have HO := hid (hO.ints.up ((Up.refl w10).alloc (.cells #[.int .i64 ab, v] 58)))
  obtain ⟨pv, mv, cv, rfl⟩ := hO.slice
  have HG10 := hid (HG9.out.up hU10)
  have HB10 := hid (HB9.out.up hU10)
  have HW10 := hid (HW9.out.up hU10)
  have HU10 := hid (HU9.out.trans hU10)
  have HS10 := hid ((HS9.out.trans hU10).alloc (.cells #[.int .i64 ab, .slice pv mv cv] 58))
  clear hO hU10 c0 c1 c2 k0 k1 m0 m1
  obtain ⟨c0, c1, c2⟩ := HG10.out
  have k0 := HB10.out.val (i := 0) (v := .int .i64 tb) rfl
  have k1 := HB10.out.val (i := 1) (v := .slice a1 n cp1) rfl
  have m0 := HW10.out.val (i := 0) (v := .int .i64 ab) rfl
  have m1 := HW10.out.val (i := 1) (v := .slice ap am ac) rfl
  have s0 := cell_lt c0
  have s1 := cell_lt k0
  have s2 := cell_lt m0
  go_wp2_with fail
  refine (equal_any _ _ _ _ _ (HI.out.up HS10.out) HO.out).mono ?_
  rintro e w11 ⟨rfl, hU11⟩
  rw [show (tabL P (digs Q) ab == tabL P (digs Q) ab) = true by simp]
  go_wp2
  go_ret
  exact ⟨rfl, (HU10.out.alloc _).trans hU11⟩
end Go.Proofs.YtldodbffdegmiaaDoor
