/-
  Small laws over any program on '[]byte(s)': the new row with its mark, read, written and turned back into a string.
-/
import Derived.Test.YtnomodbcpndocaaMem
namespace Go.Proofs.Ytnomodbcpndocaa
open Go.RowKit
set_option linter.unusedVariables false

/-- Block g holds the bytes l from its start on; none of them is frozen. -/
def BytesAt (w : World) (g : Nat) (e : TypeId) (l : List UInt8) : Prop :=
  ∃ C fr, w.heap[g]? = some (.cells C e fr) ∧ l.length ≤ C.size ∧ C.size ≤ fr.1 ∧ ∀ j (hj : j < l.length), C[j]? = some (byteV l[j])

theorem BytesAt.lt {w : World} {g : Nat} {e : TypeId} {l : List UInt8} (h : BytesAt w g e l) : g < w.heap.size := by
  obtain ⟨C, fr, h, _⟩ := h
  rcases Nat.lt_or_ge g w.heap.size with hlt | hge
  · exact hlt
  · rw [Array.getElem?_eq_none hge] at h; cases h
theorem BytesAt.cell {w : World} {g : Nat} {e : TypeId} {l : List UInt8} (h : BytesAt w g e l) (j : Nat) (b : UInt8) (hj : l[j]? = some b) : w.cell? ⟨g, j, none⟩ = some (byteV b) := by
  obtain ⟨C, fr, h, h1, h2, h3⟩ := h
  obtain ⟨hlt, rfl⟩ := List.getElem?_eq_some_iff.1 hj
  rw [cell_of_row w g j C e fr h, h3 j hlt]
theorem BytesAt.frozen {w : World} {g : Nat} {e : TypeId} {l : List UInt8} (h : BytesAt w g e l) (j : Nat) (hj : j < l.length) : w.frozen? ⟨g, j, none⟩ = false := by
  obtain ⟨C, fr, h, h1, h2, h3⟩ := h
  unfold World.frozen?
  rw [h]
  obtain ⟨lo, hi⟩ := fr
  have : ¬ lo ≤ j := by simp at h2; omega
  simp [this]
theorem BytesAt.below {w w' : World} {g : Nat} {e : TypeId} {l : List UInt8} {B : Nat} (h : BytesAt w g e l) (hb : Below B w w') (hg : g < B) : BytesAt w' g e l := by
  obtain ⟨C, fr, h, r⟩ := h
  exact ⟨C, fr, (hb.block g hg).trans h, r⟩
theorem BytesAt.drewN {w : World} {g : Nat} {e : TypeId} {l : List UInt8} (h : BytesAt w g e l) (n : Nat) : BytesAt (w.drewN n) g e l := h
theorem BytesAt.drew {w : World} {g : Nat} {e : TypeId} {l : List UInt8} (h : BytesAt w g e l) : BytesAt w.drew g e l := h
theorem BytesAt.set_ {w : World} {g : Nat} {e : TypeId} {l : List UInt8} (h : BytesAt w g e l) (j : Nat) (b : UInt8) : BytesAt (w.setCell ⟨g, j, none⟩ (byteV b)) g e (l.set j b) := by
  obtain ⟨C, fr, h, h1, h2, h3⟩ := h
  refine ⟨C.setIfInBounds j (byteV b), fr, ?_, by simp; omega, by simp; omega, ?_⟩
  · unfold World.setCell
    simp [Array.getElem?_modify, h]
  · intro i hi
    simp at hi
    rw [Array.getElem?_setIfInBounds, List.getElem_set]
    by_cases hij : j = i
    · subst hij
      simp
      omega
    · rw [if_neg hij, if_neg hij]
      exact h3 i hi

section
variable {P : Program}
theorem BytesAt.string {w : World} {g : Nat} {e : TypeId} {l : List UInt8} (h : BytesAt w g e l) (src dst : TypeId) (hs : P.underlying src = some (.slice e)) (he : P.underlying e = some (.int .u8)) (hd : P.underlying dst = some .string) (cap : Nat) :
    (convert src dst (.slice (some ⟨g, 0, none⟩) l.length cap)).run P w = .ok (.string ⟨l.toArray⟩) w := by
  refine run_convert_bytes_back w src dst e ⟨g, 0, none⟩ cap l hs he hd fun j hj => ?_
  have hadd : (⟨g, 0, none⟩ : Addr).add j = ⟨g, j, none⟩ := by unfold Addr.add; split <;> simp_all
  rw [hadd]
  exact h.cell j l[j] (List.getElem?_eq_getElem hj)
/-- '[]byte(s)': a new row. -/
theorem BytesAt.new (w : World) (e : TypeId) (s : ByteArray) (cap : Nat) : BytesAt (w.alloc (.cells (bytesRow s cap) e ((bytesRow s cap).size, (bytesRow s cap).size + 1))) w.heap.size e s.data.toList := by
  refine ⟨bytesRow s cap, _, heap_alloc_new w _, ?_, Nat.le_refl _, ?_⟩
  · simp [bytesRow]
  · intro j hj
    have := bytesRow_at s cap j (by simpa using hj)
    rw [this]
    simp [byteV]
end
end Go.Proofs.Ytnomodbcpndocaa
