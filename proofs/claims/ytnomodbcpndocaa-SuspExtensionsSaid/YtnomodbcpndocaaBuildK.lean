/-
  A strings.Builder in a block of the call's own, by the list of its bytes, whatever else the call has made: what WriteString, Len and String do, and what they keep.
-/
import Derived.Test.YtnomodbcpndocaaArr
import Derived.Test.YtnomodbcpndocaaShelf
import Derived.Shelf.Strings.BuilderK
namespace Go.Proofs.Ytnomodbcpndocaa
open Go.RowKit
set_option linter.unusedVariables false

/-- In block b lies a builder that holds the bytes l. -/
def Bld (w : World) (b : Nat) (l : List UInt8) : Prop := Lib.IsBuilderF 72 5 b b (Lib.byteCells l) w
/-- What a builder's call keeps: old memory below the builder, and whatever is not the builder's and no row of bytes. -/
structure Kept (b : Nat) (w w' : World) : Prop where
  bel : Below b w w'
  oth : Lib.OthersKept 5 (some b) w w'
theorem Bld.new (w : World) : Bld (w.alloc (.cells #[.pointer none, .slice none 0 0] 72)) w.heap.size [] := Lib.IsBuilderF.of (Lib.fresh_isBuilder _ _ w)
theorem Bld.drew {w : World} {b : Nat} {l : List UInt8} (h : Bld w b l) : Bld w.drew b l := h
theorem Bld.drewN {w : World} {b : Nat} {l : List UInt8} (h : Bld w b l) (k : Nat) : Bld (w.drewN k) b l := h
theorem BuilderAtF.lt {w : World} {T e B b : Nat} {p : Value} {bs : List Value} (h : Lib.BuilderAtF T e B b p bs w) : b < w.heap.size := by
  obtain ⟨_, v, h2, _⟩ := h
  rcases Nat.lt_or_ge b w.heap.size with h' | h'
  · exact h'
  · simp [Array.getElem?_eq_none h'] at h2
theorem Bld.lt {w : World} {b : Nat} {l : List UInt8} (h : Bld w b l) : b < w.heap.size := by
  rcases h with h | h
  · exact BuilderAtF.lt h
  · exact BuilderAtF.lt h
theorem ownF_all {w w' : World} {base e size : Nat} {v : Value} {n : Nat} {xs : List Value} (h : w.ownsRowF base e size v n xs) (hb : Below w.heap.size w w') : w'.ownsRowF base e size v n xs := by
  obtain ⟨h1, h2⟩ := h
  refine ⟨h1, ?_⟩
  rcases h2 with h2 | ⟨g, cap, cur, fz, hv, hg, hh, r⟩
  · exact .inl h2
  · refine .inr ⟨g, cap, cur, fz, hv, hg, ?_, r⟩
    have hlt : g < w.heap.size := by
      rcases Nat.lt_or_ge g w.heap.size with h' | h'
      · exact h'
      · simp [Array.getElem?_eq_none h'] at hh
    rw [hb.block g hlt]
    exact hh
theorem Bld.below {w w' : World} {b : Nat} {l : List UInt8} (h : Bld w b l) (hb : Below w.heap.size w w') : Bld w' b l := by
  have one : ∀ p, Lib.BuilderAtF 72 5 b b p (Lib.byteCells l) w → Lib.BuilderAtF 72 5 b b p (Lib.byteCells l) w' := by
    intro p hp
    have hlt := BuilderAtF.lt hp
    obtain ⟨h1, v, h2, h3, h4⟩ := hp
    exact ⟨h1, v, (hb.block b hlt).trans h2, ownF_all h3 hb, h4⟩
  rcases h with h | h
  · exact .inl (one _ h)
  · exact .inr (one _ h)
theorem strCells_bytes (s : ByteArray) : Lib.strCells s = Lib.byteCells s.data.toList := rfl
theorem byteCells_append (l r : List UInt8) : Lib.byteCells l ++ Lib.byteCells r = Lib.byteCells (l ++ r) := by simp [Lib.byteCells]
theorem RowAt.keptB {w w' : World} {g b : Nat} {t : TypeId} {cs : Array Value} (h : RowAt w g t cs) (hk : Kept b w w') (hb : g ≠ b) (ht : t ≠ 5) : RowAt w' g t cs :=
  hk.oth g _ h (fun e => hb (by injection e)) (fun c fz e => by injection e with _ e1; exact ht e1)
theorem Kept.base {w0 w w' : World} {b : Nat} (hk : Kept b w w') (h : Below w0.heap.size w0 w) (hb : w0.heap.size ≤ b) : Below w0.heap.size w0 w' := h.trans (hk.bel.mono hb)

theorem bwrite_any (b : Nat) (l : List UInt8) (s : ByteArray) (w : World) (h : Bld w b l) (hlen : l.length + s.size ≤ 140737488355328) :
    Calls Try.prog 45 #[.pointer (some ⟨b, 0, none⟩), .string s] w fun e w' => e = .returned (.tuple #[.int .i64 s.size, .nilIface]) ∧ Bld w' b (l ++ s.data.toList) ∧ Kept b w w' := by
  have hc : Calls Try.prog 45 #[.pointer (some ⟨b, 0, none⟩), .string s] w fun e w' => e = .returned (.tuple #[.int .i64 s.size, .nilIface]) ∧ (Lib.BuilderAtF 72 5 b b (.pointer (some ⟨b, 0, none⟩)) (Lib.byteCells l ++ Lib.strCells s) w' ∧ Below b w w' ∧ Lib.OthersKept 5 (some b) w w') :=
    Any.Builder_WriteString_k { Try.lays105 with } Try.Builder_Extra_105 b b (Lib.byteCells l) s w h (by rw [Lib.byteCells_length]; exact hlen) (Nat.le_of_lt h.lt)
  refine hc.mono fun e w' hh => ⟨hh.1, ?_, hh.2.2.1, hh.2.2.2⟩
  have := hh.2.1
  rw [strCells_bytes, byteCells_append] at this
  exact .inr this
theorem bstring_any (b : Nat) (l : List UInt8) (w : World) (h : Bld w b l) :
    Calls Try.prog 47 #[.pointer (some ⟨b, 0, none⟩)] w fun e w' => e = .returned (.string ⟨l.toArray⟩) ∧ Kept b w w' := by
  have hc : Calls Try.prog 47 #[.pointer (some ⟨b, 0, none⟩)] w fun e w' => e = .returned (.string ⟨l.toArray⟩) ∧ (Lib.IsBuilderF 72 5 b b (Lib.byteCells l) w' ∧ Below b w w' ∧ Lib.OthersKept 5 (some b) w w') :=
    Any.Builder_String_any_k { Try.lays105 with } Try.Builder_Extra_105 b b l w h (Nat.le_of_lt h.lt)
  exact hc.mono fun e w' hh => ⟨hh.1, hh.2.2.1, hh.2.2.2⟩
theorem blen_any (b : Nat) (l : List UInt8) (w : World) (h : Bld w b l) :
    Calls Try.prog 55 #[.pointer (some ⟨b, 0, none⟩)] w fun e w' => e = .returned (.int .i64 l.length) ∧ w = w' := by
  have hc := Any.Builder_Len_f { Try.lays105 with } b b (Lib.byteCells l) w h
  rw [Lib.byteCells_length] at hc
  exact hc.mono fun e w' hh => ⟨hh.1, hh.2.symm⟩
end Go.Proofs.Ytnomodbcpndocaa
