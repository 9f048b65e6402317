/-
  Chapter 52: writes in memory; the elements of a slice of strings.
-/
import Derived.Test.YtdmdfpdigoijoaaPw
import Derived.Test.YtdmdfpdigoijoaaSl
import Derived.Test.YtdmdfpdigoijoaaRows2
import Derived.Test.YtdmdfpdigoijoaaApp
namespace Go.Proofs.Ytdmdfpdigoijoaa
open Go.RowKit
set_option linter.unusedVariables false

def strV (l : List ByteArray) : List Value := l.map Value.string
def encW (x : Wr) : List Value := [.int .i64 x.pos, .slice x.A x.bl.length x.cap, .bool x.sync, .bool x.close]
theorem encW_length (x : Wr) : (encW x).length = 4 := rfl
/-- From A on lie the writes ws. -/
def WrAt (w : World) (B : Nat) (A : Option Addr) (ws : List Wr) : Prop := SlAt w B A (flat encW ws) ∧ ∀ x ∈ ws, SlAt w B x.A (strV x.bl) ∧ x.bl.length ≤ x.cap ∧ x.cap ≤ maxLen
section
variable {w w' : World} {B C : Nat} {A : Option Addr} {ws : List Wr}
theorem WrAt.below (h : WrAt w B A ws) (hb : Below B w w') : WrAt w' B A ws := ⟨h.1.below hb, fun x hx => ⟨(h.2 x hx).1.below hb, (h.2 x hx).2⟩⟩
theorem WrAt.mono (h : WrAt w B A ws) (hBC : B ≤ C) : WrAt w C A ws := ⟨h.1.mono hBC, fun x hx => ⟨(h.2 x hx).1.mono hBC, (h.2 x hx).2⟩⟩
theorem WrAt.one (h : WrAt w B A ws) (hp : 0 < ws.length) : ∃ b off, A = some ⟨b, off, none⟩ ∧ b < B := by
  obtain ⟨b, off, hA, hb, _⟩ := h.1.one (by rw [flat_length encW_length]; omega)
  exact ⟨b, off, hA, hb⟩
theorem WrAt.cells (h : WrAt w B A ws) {b off : Nat} (hA : A = some ⟨b, off, none⟩) {k : Nat} {x : Wr} (hk : ws[k]? = some x) :
    w.cell? ⟨b, off + k * 4, none⟩ = some (.int .i64 x.pos) ∧ w.cell? ⟨b, off + k * 4 + 1, none⟩ = some (.slice x.A x.bl.length x.cap) ∧ w.cell? ⟨b, off + k * 4 + 2, none⟩ = some (.bool x.sync) ∧ w.cell? ⟨b, off + k * 4 + 3, none⟩ = some (.bool x.close) := by
  have c : ∀ j, j < 4 → ∀ u, (encW x)[j]? = some u → w.cell? ⟨b, off + (k * 4 + j), none⟩ = some u := fun j hj u hu => by
    obtain ⟨b', off', e, _, hc⟩ := h.1 (k * 4 + j) u ((flat_get encW_length ws k j x hk hj).trans hu)
    rw [hA] at e
    injection e with e
    injection e with e1 e2 _
    subst e1 e2
    exact hc
  refine ⟨c 0 (by omega) _ rfl, ?_, ?_, ?_⟩
  · rw [Nat.add_assoc]; exact c 1 (by omega) _ rfl
  · rw [Nat.add_assoc]; exact c 2 (by omega) _ rfl
  · rw [Nat.add_assoc]; exact c 3 (by omega) _ rfl
/-- The cell of string number k. -/
theorem SlAt.str {l : List ByteArray} (h : SlAt w B A (strV l)) {b off : Nat} (hA : A = some ⟨b, off, none⟩) {k : Nat} {s : ByteArray} (hk : l[k]? = some s) : w.cell? ⟨b, off + k, none⟩ = some (.string s) := by
  obtain ⟨b', off', e, _, hc⟩ := h k (.string s) (by simp [strV, hk])
  rw [hA] at e
  injection e with e
  injection e with e1 e2 _
  subst e1 e2
  exact hc
theorem SlAt.strAddr {l : List ByteArray} (h : SlAt w B A (strV l)) (hp : 0 < l.length) : ∃ b off, A = some ⟨b, off, none⟩ ∧ b < B := by
  obtain ⟨b, off, hA, hb, _⟩ := h.one (by simpa [strV] using hp)
  exact ⟨b, off, hA, hb⟩
end
theorem info_str : (Try.prog.info? 9).map (fun i => (i.zero, i.size, i.bytes)) = some (some (.string ByteArray.empty), 1, 16) := by kernel_rfl
end Go.Proofs.Ytdmdfpdigoijoaa
