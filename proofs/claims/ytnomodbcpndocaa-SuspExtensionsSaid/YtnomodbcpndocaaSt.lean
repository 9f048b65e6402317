/-
  The state of a walk in one word: what was there at the start is as it was, and each of the call's own blocks on a list holds just the cells that the list says.
-/
import Derived.Test.YtnomodbcpndocaaArr
namespace Go.Proofs.Ytnomodbcpndocaa
open Go.RowKit
set_option linter.unusedVariables false

abbrev Rows := List (Nat × TypeId × Array Value)
def St (w0 w : World) (rows : Rows) : Prop :=
  Below w0.heap.size w0 w ∧ (∀ r ∈ rows, w0.heap.size ≤ r.1 ∧ RowAt w r.1 r.2.1 r.2.2) ∧ rows.Pairwise (fun a b => a.1 ≠ b.1)

section
variable {w0 w w' : World} {rows : Rows}
theorem St.start (w : World) : St w w [] := ⟨Below.refl _ _, fun r hr => (List.not_mem_nil hr).elim, List.Pairwise.nil⟩
theorem St.bel (h : St w0 w rows) : Below w0.heap.size w0 w := h.1
theorem St.at (h : St w0 w rows) {i g : Nat} {t : TypeId} {cs : Array Value} (hi : rows[i]? = some (g, t, cs)) : RowAt w g t cs := (h.2.1 _ (List.mem_of_getElem? hi)).2
theorem St.base (h : St w0 w rows) {i g : Nat} {t : TypeId} {cs : Array Value} (hi : rows[i]? = some (g, t, cs)) : w0.heap.size ≤ g := (h.2.1 _ (List.mem_of_getElem? hi)).1
theorem St.lt (h : St w0 w rows) {i g : Nat} {t : TypeId} {cs : Array Value} (hi : rows[i]? = some (g, t, cs)) : g < w.heap.size := (h.at hi).lt
theorem St.ne (h : St w0 w rows) {i j g g' : Nat} {t t' : TypeId} {cs cs' : Array Value} (hi : rows[i]? = some (g, t, cs)) (hj : rows[j]? = some (g', t', cs')) (hij : i < j) : g ≠ g' := by
  obtain ⟨h1, e1⟩ := List.getElem?_eq_some_iff.1 hi
  obtain ⟨h2, e2⟩ := List.getElem?_eq_some_iff.1 hj
  have := List.pairwise_iff_getElem.1 h.2.2 i j h1 h2 hij
  rw [e1, e2] at this
  exact this
theorem St.call (hb : Below w.heap.size w w') (h : St w0 w rows) : St w0 w' rows :=
  ⟨h.1.trans (hb.mono h.1.size), fun r hr => ⟨(h.2.1 r hr).1, (h.2.1 r hr).2.below hb (h.2.1 r hr).2.lt⟩, h.2.2⟩
theorem St.alloc (h : St w0 w rows) (cs : Array Value) (t : TypeId) : St w0 (w.alloc (.cells cs t)) ((w.heap.size, t, cs) :: rows) := by
  refine ⟨h.1.alloc h.1.size _, ?_, ?_⟩
  · intro r hr
    rcases List.mem_cons.1 hr with rfl | hr
    · exact ⟨h.1.size, RowAt.new _ _ _⟩
    · exact ⟨(h.2.1 r hr).1, (h.2.1 r hr).2.alloc _⟩
  · refine List.Pairwise.cons (fun r hr => ?_) h.2.2
    have := (h.2.1 r hr).2.lt
    show w.heap.size ≠ r.1
    omega
/-- The new block's number as the walk spells it. -/
theorem St.new (h : St w0 w rows) {g : Nat} (hg : w.heap.size = g) (cs : Array Value) (t : TypeId) : St w0 (w.alloc (.cells cs t)) ((g, t, cs) :: rows) := hg ▸ h.alloc cs t
theorem St.other (h : St w0 w rows) (o : Obj) : St w0 (w.alloc o) rows := ⟨h.1.alloc h.1.size _, fun r hr => ⟨(h.2.1 r hr).1, (h.2.1 r hr).2.alloc _⟩, h.2.2⟩
theorem St.drew (h : St w0 w rows) : St w0 w.drew rows := ⟨h.1.drew, h.2.1, h.2.2⟩
theorem St.drewN (h : St w0 w rows) (k : Nat) : St w0 (w.drewN k) rows := by
  refine ⟨?_, h.2.1, h.2.2⟩
  induction k with
  | zero => exact h.1
  | succ k ih => exact ih.drew
/-- A cell of the block at place i of the list is written. -/
theorem St.set (h : St w0 w rows) (i : Nat) {g : Nat} {t : TypeId} {cs : Array Value} (hi : rows[i]? = some (g, t, cs)) (j : Nat) (v : Value) : St w0 (w.setCell ⟨g, j, none⟩ v) (rows.set i (g, t, cs.setIfInBounds j v)) := by
  obtain ⟨hlt, he⟩ := List.getElem?_eq_some_iff.1 hi
  refine ⟨h.1.setCell (p := ⟨g, j, none⟩) (h.base hi) _, ?_, ?_⟩
  · intro r hr
    obtain ⟨k, hk⟩ := List.getElem?_of_mem hr
    rw [List.getElem?_set] at hk
    by_cases hik : i = k
    · subst hik
      rw [if_pos rfl, if_pos hlt] at hk
      injection hk with hk
      subst hk
      exact ⟨h.base hi, (h.at hi).set_ j v⟩
    · rw [if_neg hik] at hk
      have hm := h.2.1 r (List.mem_of_getElem? hk)
      refine ⟨hm.1, hm.2.far ?_ v⟩
      show r.1 ≠ g
      obtain ⟨hk1, hk2⟩ := List.getElem?_eq_some_iff.1 hk
      have hp := List.pairwise_iff_getElem.1 h.2.2
      rcases Nat.lt_or_gt_of_ne hik with hl | hl
      · have := hp i k hlt hk1 hl
        rw [he, hk2] at this
        exact fun e => this e.symm
      · have := hp k i hk1 hlt hl
        rw [he, hk2] at this
        exact this
  · refine List.pairwise_iff_getElem.2 fun a b ha hb hab => ?_
    have hp := List.pairwise_iff_getElem.1 h.2.2
    simp only [List.length_set] at ha hb
    have := hp a b ha hb hab
    simp only [List.getElem_set]
    by_cases h1 : i = a
    · subst h1
      rw [if_pos rfl, if_neg (by omega)]
      rw [he] at this
      exact this
    · rw [if_neg h1]
      by_cases h2 : i = b
      · subst h2
        rw [if_pos rfl]
        rw [he] at this
        exact this
      · rw [if_neg h2]
        exact this
theorem St.drop1 {r : Nat × TypeId × Array Value} (h : St w0 w (r :: rows)) : St w0 w rows := ⟨h.1, fun x hx => h.2.1 x (List.mem_cons_of_mem _ hx), (List.pairwise_cons.1 h.2.2).2⟩
/-- For go_region_held3: what the loads read, shown anew. -/
theorem St.keep {S : World → Prop} {W w1 : World} (D : ∀ w, St w0 w rows → S w) (hb : Below W.heap.size W w1) (hS : St w0 W rows ∧ S W) : St w0 w1 rows ∧ S w1 := ⟨hS.1.call hb, D _ (hS.1.call hb)⟩
theorem St.keepO {S : World → Prop} {W : World} {o : Obj} (D : ∀ w, St w0 w rows → S w) (hS : St w0 W rows ∧ S W) : St w0 (W.alloc o) rows ∧ S (W.alloc o) := ⟨hS.1.other o, D _ (hS.1.other o)⟩
theorem St.keep1 {S : World → Prop} (D : ∀ w, St w0 w rows → S w) (hS : St w0 w rows) : St w0 w rows ∧ S w := ⟨hS, D _ hS⟩
theorem St.bel7 (h : St w0 w rows) {i g : Nat} {t : TypeId} {cs : Array Value} (hi : rows[i]? = some (g, t, cs)) (a0 a1 a2 a3 a4 a5 a6 : Value) :
    Below w0.heap.size w0 (((((((w.setCell ⟨g, 0, none⟩ a0).setCell ⟨g, 1, none⟩ a1).setCell ⟨g, 2, none⟩ a2).setCell ⟨g, 3, none⟩ a3).setCell ⟨g, 4, none⟩ a4).setCell ⟨g, 5, none⟩ a5).setCell ⟨g, 6, none⟩ a6) :=
  ((((((h.1.setCell (p := ⟨g, 0, none⟩) (h.base hi) _).setCell (p := ⟨g, 1, none⟩) (h.base hi) _).setCell (p := ⟨g, 2, none⟩) (h.base hi) _).setCell (p := ⟨g, 3, none⟩) (h.base hi) _).setCell (p := ⟨g, 4, none⟩) (h.base hi) _).setCell (p := ⟨g, 5, none⟩) (h.base hi) _).setCell (p := ⟨g, 6, none⟩) (h.base hi) _
theorem below_drewN {B : Nat} {w0 w : World} (h : Below B w0 w) (k : Nat) : Below B w0 (w.drewN k) := by
  induction k with
  | zero => exact h
  | succ k ih => exact ih.drew
theorem St.set7 {g : Nat} {t : TypeId} {cs : Array Value} (h : St w0 w ((g, t, cs) :: rows)) (a0 a1 a2 a3 a4 a5 a6 : Value) : St w0 (((((((w.setCell ⟨g, 0, none⟩ a0).setCell ⟨g, 1, none⟩ a1).setCell ⟨g, 2, none⟩ a2).setCell ⟨g, 3, none⟩ a3).setCell ⟨g, 4, none⟩ a4).setCell ⟨g, 5, none⟩ a5).setCell ⟨g, 6, none⟩ a6)
    ((g, t, ((((((cs.setIfInBounds 0 a0).setIfInBounds 1 a1).setIfInBounds 2 a2).setIfInBounds 3 a3).setIfInBounds 4 a4).setIfInBounds 5 a5).setIfInBounds 6 a6) :: rows) :=
  ((((((h.set 0 rfl 0 a0).set 0 rfl 1 a1).set 0 rfl 2 a2).set 0 rfl 3 a3).set 0 rfl 4 a4).set 0 rfl 5 a5).set 0 rfl 6 a6
end
end Go.Proofs.Ytnomodbcpndocaa
