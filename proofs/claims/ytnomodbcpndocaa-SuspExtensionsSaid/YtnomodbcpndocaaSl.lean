/-
  Small laws over any program on a slice that comes in or is handed on: its cells as a list of values; nil is let in.
-/
import Derived.Test.YtnomodbcpndocaaMem
import Derived.WalkSmall
namespace Go.Proofs.Ytnomodbcpndocaa
open Go.RowKit
set_option linter.unusedVariables false

/-- From the address A on lie the values xs, in a block below B. -/
def SlAt (w : World) (B : Nat) (A : Option Addr) (xs : List Value) : Prop :=
  ∀ j u, xs[j]? = some u → ∃ b off, A = some ⟨b, off, none⟩ ∧ b < B ∧ w.cell? ⟨b, off + j, none⟩ = some u

section
variable {w w' : World} {B C : Nat} {A : Option Addr} {xs : List Value}
theorem SlAt.nil (w : World) (B : Nat) (A : Option Addr) : SlAt w B A [] := fun j u h => by simp at h
theorem SlAt.mono (h : SlAt w B A xs) (hBC : B ≤ C) : SlAt w C A xs := fun j u hu => by
  obtain ⟨b, off, e, hb, hc⟩ := h j u hu
  exact ⟨b, off, e, by omega, hc⟩
theorem SlAt.below (h : SlAt w B A xs) (hb : Below B w w') : SlAt w' B A xs := fun j u hu => by
  obtain ⟨b, off, e, h1, hc⟩ := h j u hu
  exact ⟨b, off, e, h1, (hb.cell (p := ⟨b, off + j, none⟩) h1).trans hc⟩
theorem SlAt.drewN (h : SlAt w B A xs) (k : Nat) : SlAt (w.drewN k) B A xs := h
theorem SlAt.drew (h : SlAt w B A xs) : SlAt w.drew B A xs := h
/-- The one address of a slice that is not empty. -/
theorem SlAt.one (h : SlAt w B A xs) (hp : 0 < xs.length) : ∃ b off, A = some ⟨b, off, none⟩ ∧ b < B ∧ ∀ j u, xs[j]? = some u → w.cell? ⟨b, off + j, none⟩ = some u := by
  obtain ⟨b, off, e, hb, hc⟩ := h 0 xs[0] (List.getElem?_eq_getElem hp)
  refine ⟨b, off, e, hb, fun j u hu => ?_⟩
  obtain ⟨b', off', e', hb', hc'⟩ := h j u hu
  rw [e] at e'
  injection e' with e'
  injection e' with e1 e2 _
  subst e1 e2
  exact hc'
theorem SlAt.of_own {base : Nat} {e : TypeId} {size n g cap : Nat} (h : w.ownsRow base e size (.slice (some ⟨g, 0, none⟩) n cap) n xs) (hg : g < B) : SlAt w B (some ⟨g, 0, none⟩) xs := fun j u hu => by
  refine ⟨g, 0, rfl, hg, ?_⟩
  have := h.cells (g := g) rfl j u hu
  have hadd : (⟨g, 0, none⟩ : Addr).add j = ⟨g, 0 + j, none⟩ := by unfold Addr.add; split <;> simp_all
  rwa [hadd] at this
theorem SlAt.of_cells {ad : Addr} (hb : ad.block < B) (h : ∀ j u, xs[j]? = some u → w.cell? (ad.add j) = some u) (hp : 0 < xs.length) : SlAt w B (some ad) xs := by
  obtain ⟨b, off, spot⟩ := ad
  have h0 := h 0 xs[0] (List.getElem?_eq_getElem hp)
  have hspot : spot = none := by simpa [Addr.add] using World.cell?_spot h0
  subst hspot
  intro j u hu
  refine ⟨b, off, rfl, hb, ?_⟩
  rw [← Go.WideShapes.add_plain]
  exact h j u hu
end
end Go.Proofs.Ytnomodbcpndocaa
