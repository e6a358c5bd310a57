/- Restrictive signatures: which are right. The reference's restrictive signatures: which are right. A part of a slice of integers, as one value that nobody looks into. Package unlink: the methods of a field; the first error. Package unlink: which factors explain. -/
import Derived.Test.YtoaomjdpiealfaaDoorMB15
import Derived.Test.YtoaomjdpiealfaaDoorMB21
import Derived.Test.YtoaomjdpiealfaaDoorMB5
import Derived.Test.YtoaomjdpiealfaaDoorMB18
namespace Go.Proofs.YtoaomjdpiealfaaDoor
open Go.RowKit Go.Sp
set_option maxHeartbeats 4000000
set_option maxRecDepth 20000

/-- A right signature. -/
def verB (P Q G A B C k1 k2 k3 p : Int) (root : Nat → Int) (z a b r : Int) : Bool :=
  kvB P Q G A B C k1 k2 k3 && (gnB P Q p && (exB Q r && ([z, a, b].all (elB P Q) && (coinC P Q G A B C p root z a b != 0 && cvE P G k1 p z a b (coinC P Q G A B C p root z a b) r))))

end Go.Proofs.YtoaomjdpiealfaaDoor
namespace Go.Proofs.YtoaomjdpiealfaaDoor
open Go.RowKit Go.Sp
set_option maxHeartbeats 4000000
set_option maxRecDepth 20000

end Go.Proofs.YtoaomjdpiealfaaDoor
namespace Go.Proofs.YtoaomjdpiealfaaDoor
open Go.RowKit Go.Sp

theorem sliced_ints {w : World} {v : Value} {xs : List Int} (h : IntsAt w v xs) (r : Room v) (lo hi : Nat) (h1 : lo ≤ hi) (h2 : hi ≤ xs.length) :
    ∃ a n cap, v = .slice a n cap ∧ n = xs.length ∧ n ≤ cap ∧ IntsAt w (sliced a lo hi cap 1) ((xs.drop lo).take (hi - lo)) := by
  obtain ⟨a, n, cap, rfl, hle, hmx, hnone⟩ := r
  obtain ⟨hl, a', cap', hv, hc⟩ := id h
  simp only [Value.slice.injEq] at hv
  obtain ⟨rfl, rfl, rfl⟩ := hv
  refine ⟨a, xs.length, cap, rfl, rfl, hle, ?_⟩
  have hlen : ((xs.drop lo).take (hi - lo)).length = hi - lo := by simp; omega
  by_cases hne : hi - lo = 0
  · have hnil : (xs.drop lo).take (hi - lo) = [] := List.length_eq_zero_iff.1 (by omega)
    rw [hnil]
    unfold sliced
    rw [hne]
    exact ⟨by simp, _, _, rfl, fun hx => absurd rfl hx⟩
  · obtain ⟨b, off, rfl, hcell⟩ := hc (by rintro rfl; simp at h2; omega)
    have := ints_sub (c := cap - lo) h h1 h2
    unfold sliced
    have hcap : cap ≠ lo := by omega
    simpa [hcap, Addr.add_lit] using this

theorem run_lo (a : Option Addr) (n cap k : Nat) (h : k ≤ n) (W : World) : (Instr.slice 68 (.slice a n cap) (some (.int .i64 k)) none none).run Tryd.prog W = .ok (sliced a k n cap 1) W := by
  rw [run_slice_l (P := Tryd.prog) W 68 a n cap (by kernel_rfl) .i64 k (by omega) (by omega)]
  simp [show ∀ W, (sizeOf (Tryd.prog.elem 68)).run Tryd.prog W = .ok 1 W from fun W => by kernel_rfl, Result.andThen]

theorem run_hi (a : Option Addr) (n cap k : Nat) (h : k ≤ cap) (W : World) : (Instr.slice 68 (.slice a n cap) none (some (.int .i64 k)) none).run Tryd.prog W = .ok (sliced a 0 k cap 1) W := by
  rw [run_slice_h (P := Tryd.prog) W 68 a n cap (by kernel_rfl) .i64 k (by omega) (by omega)]
  simp [show ∀ W, (sizeOf (Tryd.prog.elem 68)).run Tryd.prog W = .ok 1 W from fun W => by kernel_rfl, Result.andThen]

/-- v[:k] and v[k:]. -/
theorem sub_runs {w : World} {a : Option Addr} {n cap : Nat} {xs : List Int} (h : IntsAt w (.slice a n cap) xs) (r : Room (.slice a n cap)) (k : Nat) (hk : k ≤ n) :
    ∃ u v, (∀ W, (Instr.slice 68 (.slice a n cap) none (some (.int .i64 k)) none).run Tryd.prog W = .ok u W) ∧ (∀ W, (Instr.slice 68 (.slice a n cap) (some (.int .i64 k)) none none).run Tryd.prog W = .ok v W) ∧
      IntsAt w u (xs.take k) ∧ IntsAt w v (xs.drop k) := by
  have hn : n = xs.length := by
    obtain ⟨_, _, _, hv, _⟩ := h
    simp only [Value.slice.injEq] at hv
    exact hv.2.1
  obtain ⟨a1, n1, c1, hv1, _, hle, i1⟩ := sliced_ints h r 0 k (by omega) (by omega)
  obtain ⟨a2, n2, c2, hv2, _, _, i2⟩ := sliced_ints h r k n (by omega) (by omega)
  simp only [Value.slice.injEq] at hv1 hv2
  obtain ⟨rfl, rfl, rfl⟩ := hv1
  obtain ⟨rfl, -, rfl⟩ := hv2
  refine ⟨_, _, run_hi a n cap k (by omega), run_lo a n cap k hk, by simpa using i1, ?_⟩
  rw [List.take_of_length_le (by simp; omega)] at i2
  exact i2
end Go.Proofs.YtoaomjdpiealfaaDoor
namespace Go.Proofs.YtoaomjdpiealfaaDoor
open Go.RowKit Go.Sp
set_option maxHeartbeats 4000000
set_option maxRecDepth 20000

/-- The first error of a view and a signature. -/
def fltE (kv cv ver : Bool) : Int := if kv = true then (if cv = true then (if ver = true then 0 else 12) else 11) else 1

end Go.Proofs.YtoaomjdpiealfaaDoor
namespace Go.Proofs.YtoaomjdpiealfaaDoor
open Go.RowKit Go.Sp
set_option maxHeartbeats 4000000
set_option maxRecDepth 20000

/-- Do factors explain a signature with a challenge by a view? -/
def fitB (P Q G vm vz va vb vc vr s u v p c sz sa sb sr : Int) : Bool :=
  facB Q s u v && (sr == (vr * u % Q + v) % Q && (c == vc * u % Q && (p == pwi P vm s && (sz == pwi P vz s && (sa == pwi P va u * pwi P G v % P && sb == pwi P vb (s * u % Q) * pwi P p v % P)))))

end Go.Proofs.YtoaomjdpiealfaaDoor
