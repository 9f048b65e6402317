/-
  A strings.Builder in a block of the call's own, by the list of its bytes: what WriteString and String do.
-/
import Derived.Test.YtdjpnabkmanboaaMem
import Derived.Test.YtdjpnabkmanboaaShelf
namespace Go.Proofs.Ytdjpnabkmanboaa
open Go.RowKit
set_option linter.unusedVariables false

/-- In block b lies a builder that holds the bytes l. -/
def Bld (w : World) (b : Nat) (l : List UInt8) : Prop := Lib.IsBuilder 71 5 b b (Lib.byteCells l) w
theorem Bld.new (w : World) : Bld (w.alloc (.cells #[.pointer none, .slice none 0 0] 71)) w.heap.size [] := Lib.fresh_isBuilder _ _ w
theorem Bld.drew {w : World} {b : Nat} {l : List UInt8} (h : Bld w b l) : Bld w.drew b l := h
theorem Bld.drewN {w : World} {b : Nat} {l : List UInt8} (h : Bld w b l) (k : Nat) : Bld (w.drewN k) b l := h
theorem Bld.below {w w' : World} {b : Nat} {l : List UInt8} (h : Bld w b l) (hb : Below w.heap.size w w') : Bld w' b l := by
  have one : ∀ p, Lib.BuilderAt 71 5 b b p (Lib.byteCells l) w → Lib.BuilderAt 71 5 b b p (Lib.byteCells l) w' := by
    intro p hp
    have hlt := hp.lt
    obtain ⟨h1, v, h2, h3, h4⟩ := hp
    exact ⟨h1, v, (hb.block b hlt).trans h2, own_all h3 hb, h4⟩
  rcases h with h | h
  · exact .inl (one _ h)
  · exact .inr (one _ h)
theorem Bld.lt {w : World} {b : Nat} {l : List UInt8} (h : Bld w b l) : b < w.heap.size := by
  rcases h with h | h
  · exact h.lt
  · exact h.lt
theorem strCells_bytes (s : ByteArray) : Lib.strCells s = Lib.byteCells s.data.toList := rfl
theorem byteCells_append (l r : List UInt8) : Lib.byteCells l ++ Lib.byteCells r = Lib.byteCells (l ++ r) := by simp [Lib.byteCells]

theorem bwrite_any (b : Nat) (l : List UInt8) (s : ByteArray) (w : World) (h : Bld w b l) (hlen : l.length + s.size ≤ 140737488355328) :
    Calls Try.prog 47 #[.pointer (some ⟨b, 0, none⟩), .string s] w fun e w' => e = .returned (.tuple #[.int .i64 s.size, .nilIface]) ∧ Bld w' b (l ++ s.data.toList) ∧ Below b w w' := by
  have hc : Calls Try.prog 47 #[.pointer (some ⟨b, 0, none⟩), .string s] w fun e w' => e = .returned (.tuple #[.int .i64 s.size, .nilIface]) ∧ (Lib.BuilderAt 71 5 b b (.pointer (some ⟨b, 0, none⟩)) (Lib.byteCells l ++ Lib.strCells s) w' ∧ Below b w w') :=
    Any.Builder_WriteString { Try.lays105 with } Try.Builder_Extra_105 b b (Lib.byteCells l) s w h (by rw [Lib.byteCells_length]; exact hlen) (Nat.le_of_lt h.lt)
  refine hc.mono fun e w' hh => ⟨hh.1, ?_, hh.2.2⟩
  have := hh.2.1
  rw [strCells_bytes, byteCells_append] at this
  exact .inr this
theorem bstring_any (b : Nat) (l : List UInt8) (w : World) (h : Bld w b l) :
    Calls Try.prog 49 #[.pointer (some ⟨b, 0, none⟩)] w fun e w' => e = .returned (.string ⟨l.toArray⟩) ∧ Below b w w' :=
  Any.Builder_String_any { Try.lays105 with } Try.Builder_Extra_105 b b l w h (Nat.le_of_lt h.lt)
theorem blen_any (b : Nat) (l : List UInt8) (w : World) (h : Bld w b l) :
    Calls Try.prog 48 #[.pointer (some ⟨b, 0, none⟩)] w fun e w' => e = .returned (.int .i64 l.length) ∧ w = w' := by
  have hc := Any.Builder_Len { Try.lays105 with } b b (Lib.byteCells l) w h
  rw [Lib.byteCells_length] at hc
  exact hc.mono fun e w' hh => ⟨hh.1, hh.2.symm⟩
end Go.Proofs.Ytdjpnabkmanboaa
