/- The reference's elements of a small group. -/
import Derived.Test.YtldodbffdegmiaaDoorLawTen
import Derived.Test.YtldodbffdegmiaaDoorSlices
import Derived.Test.YtldodbffdegmiaaDoorSortA
import Derived.Test.YtldodbffdegmiaaDoorLawTenA
import Derived.Test.YtldodbffdegmiaaDoorRoots
import Derived.Test.YtldodbffdegmiaaDoorSmall
namespace Go.Proofs.YtldodbffdegmiaaDoor
open Go.RowKit Go.Sp
set_option maxHeartbeats 1000000
set_option maxRecDepth 20000

/-- The elements among 1 .. i. -/
def found (P Q : Int) (i : Nat) : List Int := ((List.range i).map fun (j : Nat) => (j : Int) + 1).filter (elB P Q)

theorem found_succ (P Q : Int) (i : Nat) : found P Q (i + 1) = found P Q i ++ (if elB P Q (i + 1) = true then [(i : Int) + 1] else []) := by
  unfold found
  rw [List.range_succ, List.map_append, List.filter_append]
  congr 1
  simp [List.filter_cons]

theorem found_length (P Q : Int) (i : Nat) : (found P Q i).length ≤ i := by
  unfold found
  exact Nat.le_trans (List.length_filter_le _ _) (by simp)

theorem found_prefix (P Q : Int) {i j : Nat} (h : i ≤ j) : (found P Q i) <+: (found P Q j) := by
  obtain ⟨d, rfl⟩ : ∃ d, j = i + d := ⟨j - i, by omega⟩
  induction d with
  | zero => exact List.prefix_refl _
  | succ d ih =>
    refine List.IsPrefix.trans (ih (by omega)) ?_
    rw [show i + (d + 1) = i + d + 1 by omega, found_succ]
    exact List.prefix_append _ _

theorem OwnI.shape {w : World} {base : Nat} {v : Value} {xs : List Int} (h : OwnI w base v xs) : ∃ p cap, v = .slice p xs.length cap := by
  rcases h.2 with ⟨hv, hn⟩ | ⟨g, cap, cur, rfl, _⟩
  · exact ⟨none, 0, by rw [hv, hn]⟩
  · exact ⟨_, cap, rfl⟩

theorem OwnI.block {w : World} {base : Nat} {v : Value} {xs : List Int} (h : OwnI w base v xs) (k : Nat) (hk : v.ownBlock = some k) : base ≤ k := by
  rcases h.2 with ⟨hv, _⟩ | ⟨g, cap, cur, rfl, hb, _⟩
  · rw [hv] at hk; cases hk
  · simp [Value.ownBlock] at hk; omega

theorem GrpAt.below {w w' : World} {B b : Nat} {P Q G : Int} (h : GrpAt w b P Q G) (hb : b < B) (hU : Below B w w') : GrpAt w' b P Q G := by
  obtain ⟨q0, q1, q2⟩ := h
  exact ⟨by rw [hU.cell hb]; exact q0, by rw [hU.cell hb]; exact q1, by rw [hU.cell hb]; exact q2⟩

/-- What an append of one number to a list of one's own leaves. -/
theorem appended {w w1 w2 : World} {base n : Nat} {v v' : Value} {xs : List Int} {x : Int} {o : Obj} (hl : xs.length = n) (h : OwnI w1 base v xs) (hown : w2.ownsRow base 3 1 v' (n + 1) (xs.map (Value.int .i64) ++ [Value.int .i64 x])) (hgr : (w1.alloc o).grownBy w2 v.ownBlock) (hU : Up w w1) (hw : w.heap.size ≤ base) (hb : base ≤ w1.heap.size) :
    OwnI w2 base v' (xs ++ [x]) ∧ Up w w2 ∧ Below base w1 w2 := by
  refine ⟨?_, up_grown (hU.alloc _) hgr fun k hk => Nat.le_trans hw (h.block k hk), Below.grown (Below.alloc (Below.refl base w1) hb o) hgr (by simp; omega) fun k hk => h.block k hk⟩
  unfold OwnI
  rw [List.length_append, hl, List.map_append]
  exact hown

def RefElemOut (P Q : Int) (w : World) (e : Ending) (w' : World) : Prop :=
  ∃ v, e = .returned v ∧ OwnI w' w.heap.size v (found P Q (P - 1).toNat) ∧ Up w w'

theorem refElements_ok (P Q G : Int) (w : World) (hP2 : 2 ≤ P) (hP : P ≤ 2097152) (hQ0 : 1 ≤ Q) (hQ : Q ≤ 9223372036854775807) (hl : (found P Q (P - 1).toNat).length = Q.toNat) :
    Calls Tryd.prog 39 #[grp P Q G] w (RefElemOut P Q w) := by
  obtain ⟨n, hn⟩ : ∃ n : Nat, (P - 1).toNat = n := ⟨_, rfl⟩
  have HL := hid hl
  rw [hn] at HL
  have HN := hid hn
  obtain ⟨i0, hi, hz0, hz1, hz2⟩ := info_parts infoInt
  clear hl hn
  obtain ⟨b, hbe⟩ : ∃ b, w.heap.size = b := ⟨_, rfl⟩
  have HB := hid hbe
  go_enter Tryd.func39, Tryd.ntmps39
  go_wp2_with fail
  have HG0 : Hid (GrpAt (w.alloc (.cells #[.int .i64 P, .int .i64 Q, .int .i64 G] 23)) b P Q G) := hid (by
    rw [← HB.out]; exact box_reads rfl (Up.refl _))
  clear hbe
  go_loopw [3, 4] (fun vo vx wr => ∃ i : Nat, vx = .int .i64 ((i : Int) + 1) ∧ i ≤ n ∧ OwnI wr (b + 1) vo (found P Q i) ∧ Up w wr ∧ GrpAt wr b P Q G) (fun _ vx _ => n - ((intOf vx).toNat - 1))
  case atStart => exact ⟨0, rfl, by omega, ⟨by unfold found; simp, .inl ⟨rfl, rfl⟩⟩, (Up.refl w).alloc _, HG0.out⟩
  case round =>
    obtain ⟨i, rfl, hin, hown, hU, hG⟩ := hrel
    have hli := found_length P Q i
    obtain ⟨p, cap, hv⟩ := hown.shape
    have HLs := hid (found_prefix P Q hin).eq_of_length
    obtain ⟨m, hm⟩ : ∃ m, (found P Q i).length = m := ⟨_, rfl⟩
    have HM := hid hm
    rw [hm] at hli hv
    subst hv
    have HO := hid hown
    have HU := hid hU
    have HGr := hid hG
    have hn := HN.out
    have HS := hid (found_succ P Q i)
    obtain ⟨c0, c1, c2⟩ := hG
    have hsz : b + 1 ≤ wr.heap.size := by have := cell_lt c0; omega
    have ending : Hid ((found P Q i).length = (found P Q n).length → RefElemOut P Q w (.returned (.slice p m cap)) wr) := hid (by
      intro he
      refine ⟨_, rfl, ?_, HU.out⟩
      rw [hn, ← HLs.out he]
      exact HO.out.mono (by rw [HB.out]; omega))
    by_cases h1 : (i : Int) + 1 < P
    · have d1 : decide ((i : Int) + 1 < P) = true := by simpa using h1
      by_cases h2 : (m : Int) < Q
      · have d2 : decide ((m : Int) < Q) = true := by simpa using h2
        clear hown hU hn hm
        go_wp2_with fail
        refine (rMember_any P Q G ((i : Int) + 1) _ (by omega) (by omega) hQ).mono ?_
        rintro e w1 ⟨rfl, hU1⟩
        have HO1 := hid (HO.out.up hU1)
        have HU2 := hid (HU.out.trans hU1)
        have HG1 := hid (HGr.out.up hU1)
        obtain ⟨c0, c1, c2⟩ := HG1.out
        clear hU1
        have hsz1 : b + 1 ≤ w1.heap.size := by have := cell_lt c0; omega
        by_cases hb : elB P Q ((i : Int) + 1) = true
        · rw [hb]
          have HS2 : Hid (found P Q (i + 1) = found P Q i ++ [(i : Int) + 1]) := hid (by rw [HS.out, if_pos hb])
          have hown : w1.ownsRow (b + 1) 3 1 (.slice p m cap) m ((found P Q i).map (Value.int .i64)) := by
            have := HO1.out
            unfold OwnI at this
            rw [HM.out] at this
            exact this
          clear hb
          go_wp2_with (at_builtin; refine wpList_append_own _ rfl _ _ 36 rfl (b + 1) 3 i0 (.int .i64 0) 1 8 Tryd.underlying36 hi hz0 hz1 hz2 rfl (by decide) _ _ _ rfl (hown.alloc _) ⟨w1.heap.size, 0, none⟩ 1 1 [.int .i64 ((i : Int) + 1)] rfl rfl ?c1 ?c2 ?c3 ?c4 ?c5 ?_)
          case c1 => go_simp
          case c2 => intro y hy; simp at hy; subst hy; rfl
          case c3 => unfold maxLen; omega
          case c4 => omega
          case c5 => simp; omega
          intro v' w2 hown' hgrow _
          obtain ⟨hO3, hU3, hB3⟩ := appended HM.out HO1.out hown' hgrow HU2.out (by rw [HB.out]; omega) hsz1
          have HO3 := hid hO3
          have HU3 := hid hU3
          have HG3 := hid (HG1.out.below (by omega) hB3)
          clear hO3 hU3 hB3 hown' hgrow hown c0 c1 c2
          obtain ⟨c0, c1, c2⟩ := HG3.out
          go_wp2_with fail
          have hn := HN.out
          go_roundw
          case rel => exact ⟨i + 1, by go_num, by omega, by rw [HS2.out]; exact HO3.out, HU3.out, HG3.out⟩
          case measure => simp [intOf]; omega
        · have hb' : elB P Q ((i : Int) + 1) = false := by simpa using hb
          rw [hb']
          have HS2 : Hid (found P Q (i + 1) = found P Q i) := hid (by rw [HS.out, if_neg hb, List.append_nil])
          clear hb hb'
          go_wp2_with fail
          have hn := HN.out
          go_roundw
          case rel => exact ⟨i + 1, by go_num, by omega, by rw [HS2.out]; exact HO1.out, HU2.out, HG1.out⟩
          case measure => simp [intOf]; omega
      · have d2 : decide ((m : Int) < Q) = false := by simpa using h2
        clear hown hU hn hm
        go_wp2
        go_ret
        refine ending.out ?_
        have := (found_prefix P Q hin).length_le
        rw [HL.out] at this ⊢
        have := HM.out
        omega
    · have d1 : decide ((i : Int) + 1 < P) = false := by simpa using h1
      clear hown hU hm
      obtain rfl : i = n := by omega
      clear hn
      go_wp2
      go_ret
      first | exact ending.out rfl | exact ending.out trivial
end Go.Proofs.YtldodbffdegmiaaDoor
