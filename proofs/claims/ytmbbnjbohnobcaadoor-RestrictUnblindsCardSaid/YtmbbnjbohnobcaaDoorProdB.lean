/- Products of powers: exponents add up; products are put together. The plain side. -/
import Derived.Test.YtmbbnjbohnobcaaDoorProdA
namespace Go.Proofs.YtmbbnjbohnobcaaDoor
open Go.Sp

theorem mmul4 (x y u v P : Int) : (x * y % P) * (u * v % P) % P = (x * u % P) * (y * v % P) % P := by
  rw [emul (emod_self (x * y) P) (emod_self (u * v) P), emul (emod_self (x * u) P) (emod_self (y * v) P)]
  congr 1
  grind

theorem gpw_nonneg {P Q a m : Int} (hP : 0 < P) : 0 ≤ gpw P Q a m ∧ gpw P Q a m < P := ⟨pw_nonneg _ _ hP, pw_lt _ _ hP⟩

theorem pfold_sum {P Q : Int} (hP : 2 ≤ P) (hQ : 1 ≤ Q) : ∀ (bs ms es : List Int) (x y : Int), (∀ b ∈ bs, elB P Q b = true) → ms.length = bs.length → es.length = bs.length →
    pfold P Q (x * y % P) bs (List.zipWith (fun a e => (a + e) % Q) ms es) = pfold P Q x bs ms * pfold P Q y bs es % P
  | [], [], [], x, y, _, _, _ => by simp [pfold]
  | b :: bs, a :: ms, e :: es, x, y, hb, h1, h2 => by
    have ih := pfold_sum hP hQ bs ms es (x * gpw P Q b a % P) (y * gpw P Q b e % P) (fun z hz => hb z (by simp [hz])) (by simpa using h1) (by simpa using h2)
    rw [List.zipWith_cons_cons, pfold, pfold, pfold, ← ih]
    congr 1
    rw [gpw_base_mod (P := P) (a := b) (emod_self (a + e) Q), ← gpw_add hP hQ (hb b (by simp))]
    exact mmul4 _ _ _ _ _

theorem gpw_prod {P Q x y k : Int} : gpw P Q (x * y % P) k = gpw P Q x k * gpw P Q y k % P := pw_prod _ _ _ _

theorem pfold_times {P Q : Int} (hP : 2 ≤ P) (hQ : 1 ≤ Q) (k : Int) : ∀ (bs ms : List Int) (x : Int), (∀ b ∈ bs, elB P Q b = true) →
    pfold P Q (gpw P Q x k) bs (ms.map fun a => a * k % Q) = gpw P Q (pfold P Q x bs ms) k
  | [], [], x, _ => by simp [pfold]
  | [], a :: ms, x, _ => by simp [pfold]
  | b :: bs, [], x, _ => by simp [pfold]
  | b :: bs, a :: ms, x, hb => by
    rw [List.map_cons, pfold, pfold, ← pfold_times hP hQ k bs ms _ (fun z hz => hb z (by simp [hz]))]
    congr 1
    rw [gpw_prod, gpw_base_mod (P := P) (a := b) (emod_self (a * k) Q), ← gpw_mul hP hQ (hb b (by simp))]

theorem gpw_one {P Q k : Int} (hP : 2 ≤ P) : gpw P Q 1 k = 1 := by
  unfold gpw; rw [pw_one_base]; exact Int.emod_eq_of_lt (by omega) (by omega)

theorem gpw_zero {P Q a : Int} (hP : 2 ≤ P) : gpw P Q a 0 = 1 := by
  unfold gpw; rw [Int.zero_emod]
  show pw a 0 P = 1
  rw [pw_zero]; exact Int.emod_eq_of_lt (by omega) (by omega)

theorem pfold_none {P Q : Int} (hP : 2 ≤ P) : ∀ (bs es : List Int), (∀ e ∈ es, e = 0) → pfold P Q 1 bs es = 1
  | [], es, _ => by simp [pfold]
  | b :: bs, [], _ => by simp [pfold]
  | b :: bs, e :: es, h => by
    rw [pfold, h e (by simp), gpw_zero hP, Int.mul_one, Int.emod_eq_of_lt (by omega) (by omega)]
    exact pfold_none hP bs es fun x hx => h x (by simp [hx])

theorem pfold_append {P Q : Int} : ∀ (b1 e1 b2 e2 : List Int) (a : Int), b1.length = e1.length → pfold P Q a (b1 ++ b2) (e1 ++ e2) = pfold P Q (pfold P Q a b1 e1) b2 e2
  | [], [], b2, e2, a, _ => by simp [pfold]
  | b :: b1, e :: e1, b2, e2, a, h => by
    rw [List.cons_append, List.cons_append, pfold, pfold]
    exact pfold_append b1 e1 b2 e2 _ (by simpa using h)

/-- Cut at any place. -/
theorem pfold_cut {P Q : Int} (hP : 2 ≤ P) (hQ : 1 ≤ Q) (bs es : List Int) (k : Nat) (hb : ∀ b ∈ bs, elB P Q b = true) (h : bs.length = es.length) :
    pfold P Q 1 (bs.take k) (es.take k) * pfold P Q 1 (bs.drop k) (es.drop k) % P = pfold P Q 1 bs es := by
  rw [← pfold_out, Int.mul_one]
  have h1 := pfold_el hP hQ (bs.take k) (es.take k) 1 (el_one hP) fun b hm => hb b (List.mem_of_mem_take hm)
  have h2 := pfold_el hP hQ (bs.drop k) (es.drop k) _ h1 fun b hm => hb b (List.mem_of_mem_drop hm)
  rw [el_lt h1, el_lt h2, ← pfold_append _ _ _ _ _ (by simp [h]), List.take_append_drop, List.take_append_drop]

/-- Turned round. -/
theorem pfold_rev {P Q : Int} (hP : 2 ≤ P) (hQ : 1 ≤ Q) : ∀ (bs es : List Int), (∀ b ∈ bs, elB P Q b = true) → bs.length = es.length → pfold P Q 1 bs.reverse es.reverse = pfold P Q 1 bs es
  | [], [], _, _ => rfl
  | b :: bs, e :: es, hb, h => by
    have hb0 := hb b (by simp)
    have hbs : ∀ x ∈ bs, elB P Q x = true := fun x hx => hb x (by simp [hx])
    have g := gpw_el hP hQ hb0 e
    have h1 := pfold_el hP hQ bs es 1 (el_one hP) hbs
    have h2 := pfold_el hP hQ bs es _ g hbs
    rw [List.reverse_cons, List.reverse_cons, pfold_append _ _ _ _ _ (by simpa using h), pfold_rev hP hQ bs es hbs (by simpa using h)]
    show pfold P Q 1 bs es * gpw P Q b e % P = pfold P Q (1 * gpw P Q b e % P) bs es
    rw [Int.one_mul, el_lt g, Int.mul_comm, ← pfold_out, Int.mul_one, el_lt g, el_lt h2]
end Go.Proofs.YtmbbnjbohnobcaaDoor
