/-
  What a row of the call's own and the state's cells keep while blocks that are no cells turn (rounds of a range over a function).
-/
import Derived.Test.YtnomodbcpndocaaSt
import Derived.Test.YtnomodbcpndocaaRows2
import Derived.Test.YtnomodbcpndocaaSl
import Derived.Test.YtnomodbcpndocaaBridge
namespace Go.Proofs.Ytnomodbcpndocaa
open Go.RowKit
set_option linter.unusedVariables false

theorem rowAt_own {W W' : World} {row : Option Nat} {g B : Nat} {t : TypeId} {cs : Array Value} (h : RowAt W g t cs) (hg : W.grownBy W' row) (hr : ∀ r, row = some r → B ≤ r ∧ ∃ o : Obj, W.heap[r]? = some o ∧ o.isCells = false) : RowAt W' g t cs :=
  (hg.block g h.lt fun e => by
    obtain ⟨_, o, ho, hc⟩ := hr g e.symm
    unfold RowAt at h
    rw [h] at ho
    injection ho with ho
    subst ho
    cases hc).trans h
theorem ownsRow_own {W W' : World} {row : Option Nat} {base e size n B : Nat} {v : Value} {xs : List Value} (h : W.ownsRow base e size v n xs) (hg : W.grownBy W' row) (hr : ∀ r, row = some r → B ≤ r ∧ ∃ o : Obj, W.heap[r]? = some o ∧ o.isCells = false) : W'.ownsRow base e size v n xs :=
  own_grown h hg fun k hk e => by
    obtain ⟨_, o, ho, hc⟩ := hr k e.symm
    rcases h.2 with ⟨rfl, _⟩ | ⟨g, cap, cur, rfl, _, hh, _⟩
    · simp [Value.ownBlock] at hk
    · have e1 : g = k := by simpa [Value.ownBlock] using hk
      subst e1
      rw [hh] at ho
      injection ho with ho
      subst ho
      cases hc

theorem St.keep_own {w W W' : World} {rows : Rows} {row : Option Nat} (h : St w W rows) (hg : W.grownBy W' row) (hr : ∀ r, row = some r → w.heap.size ≤ r ∧ ∃ o : Obj, W.heap[r]? = some o ∧ o.isCells = false) : St w W' rows :=
  ⟨h.1.grown hg h.1.size (fun k e => (hr k e).1), fun r hm => ⟨(h.2.1 r hm).1, rowAt_own (h.2.1 r hm).2 hg hr⟩, h.2.2⟩
theorem own_set {W : World} {base e size n g j : Nat} {v u : Value} {xs : List Value} (h : W.ownsRow base e size v n xs) (hg : g < base) : (W.setCell ⟨g, j, none⟩ u).ownsRow base e size v n xs := by
  refine ⟨h.1, ?_⟩
  rcases h.2 with h2 | ⟨k, cap, cur, hv, hk, hh, r⟩
  · exact .inl h2
  · refine .inr ⟨k, cap, cur, hv, hk, ?_, r⟩
    have h1 : (W.setCell ⟨g, j, none⟩ u).heap[k]? = W.heap[k]? := Below.heap_setCell W _ _ k (show k ≠ g by omega)
    rw [h1]
    exact hh
theorem St.grown_own {w W W' : World} {rows : Rows} {base e size n : Nat} {v : Value} {xs : List Value} (h : St w W rows) (ho : W.ownsRow base e size v n xs) (hg : W.grownBy W' v.ownBlock) (hb : w.heap.size ≤ base) (hlt : ∀ r ∈ rows, r.1 < base) : St w W' rows :=
  ⟨h.1.grown hg h.1.size (fun k hk => Nat.le_trans hb (ho.lt k hk).1), fun r hm => ⟨(h.2.1 r hm).1, (h.2.1 r hm).2.grown hg (fun e => by have := (ho.lt r.1 e.symm).1; have := hlt r hm; omega)⟩, h.2.2⟩
theorem own_cells {W : World} {base e size n : Nat} {v : Value} {xs : List Value} (h : W.ownsRow base e size v n xs) : ∀ (j : Nat) (o : Obj), v.ownBlock = some j → W.heap[j]? = some o → o.isCells = true := by
  intro j o hj ho
  rcases h.2 with ⟨rfl, _⟩ | ⟨g, cap, cur, rfl, _, hh, _⟩
  · simp [Value.ownBlock] at hj
  · have e1 : g = j := by simpa [Value.ownBlock] using hj
    subst e1
    rw [hh] at ho
    injection ho with ho
    subst ho
    rfl
theorem kept_below {W W' : World} (hb : Below W.heap.size W W') : KeepsOthers W W' := ⟨hb.size, fun k o hk _ => (hb.block k (Array.getElem?_eq_some_iff.1 hk).1).trans hk⟩
theorem own_slice {w : World} {base e size n : Nat} {v : Value} {xs : List Value} (h : w.ownsRow base e size v n xs) : ∃ A c, v = .slice A n c := by
  rcases h.2 with ⟨rfl, rfl⟩ | ⟨g, cap, cur, rfl, _⟩
  · exact ⟨none, 0, rfl⟩
  · exact ⟨_, _, rfl⟩
theorem SlAt.of_own' {w : World} {base e size n G c : Nat} {A : Option Addr} {xs : List Value} (h : w.ownsRow base e size (.slice A n c) n xs) (hG : w.heap.size ≤ G) : SlAt w G A xs := by
  rcases h.2 with ⟨h1, rfl⟩ | ⟨g, cap, cur, h1, h2⟩
  · have : xs = [] := List.eq_nil_of_length_eq_zero (by have := h.1; omega)
    rw [this]
    exact SlAt.nil _ _ _
  · injection h1 with h1 _ _
    subst h1
    have hlt := (h.lt g rfl).2
    intro j u hu
    refine ⟨g, 0, rfl, by omega, ?_⟩
    have := h.cells (g := g) rfl j u hu
    have hadd : (⟨g, 0, none⟩ : Addr).add j = ⟨g, 0 + j, none⟩ := by unfold Addr.add; split <;> simp_all
    rwa [hadd] at this
end Go.Proofs.Ytnomodbcpndocaa
