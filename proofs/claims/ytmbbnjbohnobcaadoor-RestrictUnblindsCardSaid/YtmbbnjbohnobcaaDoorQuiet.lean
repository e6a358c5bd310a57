/- A group's numbers in the worlds of a drawn region. -/
import Derived.Test.YtmbbnjbohnobcaaDoorKeep
import Derived.Test.YtmbbnjbohnobcaaDoorUpR
namespace Go.Proofs.YtmbbnjbohnobcaaDoor
open Go.RowKit Go.Sp

theorem cellF {w : World} {b o : Nat} {v : Value} (h : w.cell? ⟨b, o, none⟩ = some v) (p : UpFrom w) : p.w'.cell? ⟨b, o, none⟩ = some v := cellUp p.up h

theorem GrpAt.from {w : World} {b : Nat} {P Q G : Int} (h : GrpAt w b P Q G) : (∀ p : UpFrom w, p.w'.cell? ⟨b, 0, none⟩ = some (.int .i64 P)) ∧ (∀ p : UpFrom w, p.w'.cell? ⟨b, 1, none⟩ = some (.int .i64 Q)) ∧ ∀ p : UpFrom w, p.w'.cell? ⟨b, 2, none⟩ = some (.int .i64 G) :=
  ⟨fun p => cellF h.1 p, fun p => cellF h.2.1 p, fun p => cellF h.2.2 p⟩
end Go.Proofs.YtmbbnjbohnobcaaDoor
