/-
  Small laws over any program on slices of slices of the call's own: rows of different element types never share a block; a list of rows, each in a block of its own.
-/
import Derived.Test.YtnomodbcpndocaaSl
import Derived.Test.YtnomodbcpndocaaSt
namespace Go.Proofs.Ytnomodbcpndocaa
open Go.RowKit
set_option linter.unusedVariables false

section
variable {w w' : World} {base base' e e' size size' n n' : Nat} {v v' : Value} {xs xs' : List Value}
theorem own_grown {row : Option Nat} (h : w.ownsRow base e size v n xs) (hg : w.grownBy w' row) (hne : ∀ k, v.ownBlock = some k → some k ≠ row) : w'.ownsRow base e size v n xs := by
  obtain ⟨h1, h2⟩ := h
  refine ⟨h1, ?_⟩
  rcases h2 with h2 | ⟨g, cap, cur, hv, hb, hh, r⟩
  · exact .inl h2
  · have hlt : g < w.heap.size := by
      rcases Nat.lt_or_ge g w.heap.size with hlt | hge
      · exact hlt
      · rw [Array.getElem?_eq_none hge] at hh; cases hh
    exact .inr ⟨g, cap, cur, hv, hb, by rw [hg.block g hlt (hne g (by rw [hv]; rfl))]; exact hh, r⟩
theorem own_ne (h : w.ownsRow base e size v n xs) (h' : w.ownsRow base' e' size' v' n' xs') (hne : e ≠ e') : ∀ k, v.ownBlock = some k → some k ≠ v'.ownBlock := by
  intro k hk he
  rcases h.2 with ⟨rfl, _⟩ | ⟨g, cap, cur, rfl, _, hh, _⟩
  · simp [Value.ownBlock] at hk
  · rcases h'.2 with ⟨rfl, _⟩ | ⟨g', cap', cur', rfl, _, hh', _⟩
    · simp [Value.ownBlock] at he
    · have e1 : g = k := by simpa [Value.ownBlock] using hk
      have e2 : k = g' := by simpa [Value.ownBlock] using he
      subst e1 e2
      rw [hh] at hh'
      injection hh' with hh'
      injection hh' with _ ht
      exact hne ht
theorem own_row_ne (h : w.ownsRow base e size v n xs) {g : Nat} {t : TypeId} {cs : Array Value} (h' : RowAt w g t cs) (hne : e ≠ t) : ∀ k, v.ownBlock = some k → k ≠ g := by
  intro k hk he
  rcases h.2 with ⟨rfl, _⟩ | ⟨g', cap, cur, rfl, _, hh, _⟩
  · simp [Value.ownBlock] at hk
  · have e1 : g' = k := by simpa [Value.ownBlock] using hk
    subst e1 he
    unfold RowAt at h'
    rw [hh] at h'
    injection h' with h'
    injection h' with _ ht
    exact hne ht
theorem RowAt.grown {g : Nat} {t : TypeId} {cs : Array Value} {row : Option Nat} (h : RowAt w g t cs) (hg : w.grownBy w' row) (hne : some g ≠ row) : RowAt w' g t cs := (hg.block g h.lt hne).trans h
theorem SlAt.grown {B : Nat} {A : Option Addr} {row : Option Nat} (h : SlAt w B A xs) (hg : w.grownBy w' row) (hB : B ≤ w.heap.size) (hne : ∀ g, row = some g → B ≤ g) : SlAt w' B A xs := fun j u hu => by
  obtain ⟨b, off, ea, hb, hc⟩ := h j u hu
  exact ⟨b, off, ea, hb, (World.cell?_of_block (hg.block b (by omega) (fun e => by have := hne b e.symm; omega))).trans hc⟩
end

/-- Row v of elements of type e, in a block of the call's own below G, holds the cells xs. -/
def Inner (w : World) (base G e : Nat) (v : Value) (xs : List Value) : Prop := w.ownsRow base e 1 v xs.length xs ∧ ∀ k, v.ownBlock = some k → k < G
/-- The values hs are rows of elements of type e that hold the lists ll. -/
def RowsOf (w : World) (base G e : Nat) (hs : List Value) (ll : List (List Value)) : Prop := hs.length = ll.length ∧ ∀ (i : Nat) l, ll[i]? = some l → ∃ v, hs[i]? = some v ∧ Inner w base G e v l

section
variable {w w' : World} {base G G' e : Nat} {v : Value} {xs : List Value} {hs : List Value} {ll : List (List Value)}
theorem Inner.below (h : Inner w base G e v xs) (hb : Below G w w') : Inner w' base G e v xs := ⟨own_below h.1 hb h.2, h.2⟩
theorem Inner.mono (h : Inner w base G e v xs) (hG : G ≤ G') : Inner w base G' e v xs := ⟨h.1, fun k hk => by have := h.2 k hk; omega⟩
theorem Inner.grown {row : Option Nat} (h : Inner w base G e v xs) (hg : w.grownBy w' row) (hne : ∀ k, v.ownBlock = some k → some k ≠ row) : Inner w' base G e v xs := ⟨own_grown h.1 hg hne, h.2⟩
theorem RowsOf.nil : RowsOf w base G e [] [] := ⟨rfl, fun i l h => by simp at h⟩
theorem RowsOf.below (h : RowsOf w base G e hs ll) (hb : Below G w w') : RowsOf w' base G e hs ll := ⟨h.1, fun i l hl => by
  obtain ⟨v, hv, hi⟩ := h.2 i l hl
  exact ⟨v, hv, hi.below hb⟩⟩
theorem RowsOf.mono (h : RowsOf w base G e hs ll) (hG : G ≤ G') : RowsOf w base G' e hs ll := ⟨h.1, fun i l hl => by
  obtain ⟨v, hv, hi⟩ := h.2 i l hl
  exact ⟨v, hv, hi.mono hG⟩⟩
/-- A row of another element type has grown. -/
theorem RowsOf.grown {base' e' size' n' : Nat} {v' : Value} {xs' : List Value} (h : RowsOf w base G e hs ll) (hown : w.ownsRow base' e' size' v' n' xs') (hne : e ≠ e') (hg : w.grownBy w' v'.ownBlock) : RowsOf w' base G e hs ll := ⟨h.1, fun i l hl => by
  obtain ⟨v, hv, hi⟩ := h.2 i l hl
  exact ⟨v, hv, hi.grown hg (own_ne hi.1 hown hne)⟩⟩
theorem RowsOf.snoc (h : RowsOf w base G e hs ll) (hi : Inner w base G e v xs) : RowsOf w base G e (hs ++ [v]) (ll ++ [xs]) := ⟨by simp [h.1], fun i l hl => by
  by_cases hlt : i < ll.length
  · rw [List.getElem?_append_left hlt] at hl
    obtain ⟨u, hu, hx⟩ := h.2 i l hl
    exact ⟨u, by rw [List.getElem?_append_left (by rw [h.1]; exact hlt)]; exact hu, hx⟩
  · have hlen : i < (ll ++ [xs]).length := (List.getElem?_eq_some_iff.1 hl).1
    obtain rfl : i = ll.length := by simp at hlen; omega
    simp at hl
    subst hl
    exact ⟨v, by rw [← h.1]; simp, hi⟩⟩
end
end Go.Proofs.Ytnomodbcpndocaa
