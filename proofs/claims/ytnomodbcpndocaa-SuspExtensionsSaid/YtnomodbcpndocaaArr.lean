/-
  Small laws over any program on whole arrays: a new one, one that is read, one that is stored, with the cells under a name.
-/
import Derived.Test.YtnomodbcpndocaaMem
import Derived.Laws.Tables
namespace Go.Proofs.Ytnomodbcpndocaa
open Go.RowKit
set_option linter.unusedVariables false

/-- Block g is just the cells cs of type t; none is frozen. -/
def RowAt (w : World) (g : Nat) (t : TypeId) (cs : Array Value) : Prop := w.heap[g]? = some (.cells cs t (0, 0))
theorem RowAt.lt {w : World} {g : Nat} {t : TypeId} {cs : Array Value} (h : RowAt w g t cs) : g < w.heap.size := by
  rcases Nat.lt_or_ge g w.heap.size with hlt | hge
  · exact hlt
  · unfold RowAt at h; rw [Array.getElem?_eq_none hge] at h; cases h
theorem RowAt.cell {w : World} {g : Nat} {t : TypeId} {cs : Array Value} (h : RowAt w g t cs) (i : Nat) : w.cell? ⟨g, i, none⟩ = cs[i]? := cell_of_row w g i cs t (0, 0) h
theorem RowAt.frozen {w : World} {g : Nat} {t : TypeId} {cs : Array Value} (h : RowAt w g t cs) (i : Nat) : w.frozen? ⟨g, i, none⟩ = false := frozen_of_row w g i cs t h
theorem RowAt.new (w : World) (t : TypeId) (cs : Array Value) : RowAt (w.alloc (.cells cs t)) w.heap.size t cs := heap_alloc_new w _
theorem RowAt.alloc {w : World} {g : Nat} {t : TypeId} {cs : Array Value} (h : RowAt w g t cs) (o : Obj) : RowAt (w.alloc o) g t cs := (Below.heap_alloc w o g h.lt).trans h
theorem RowAt.below {w w' : World} {g : Nat} {t : TypeId} {cs : Array Value} {B : Nat} (h : RowAt w g t cs) (hb : Below B w w') (hg : g < B) : RowAt w' g t cs := (hb.block g hg).trans h
theorem RowAt.drewN {w : World} {g : Nat} {t : TypeId} {cs : Array Value} (h : RowAt w g t cs) (n : Nat) : RowAt (w.drewN n) g t cs := h
theorem RowAt.set_ {w : World} {g : Nat} {t : TypeId} {cs : Array Value} (h : RowAt w g t cs) (i : Nat) (v : Value) : RowAt (w.setCell ⟨g, i, none⟩ v) g t (cs.setIfInBounds i v) := heap_setCell_same w g i cs t v h
theorem RowAt.far {w : World} {g : Nat} {t : TypeId} {cs : Array Value} (h : RowAt w g t cs) {p : Addr} (hp : g ≠ p.block) (v : Value) : RowAt (w.setCell p v) g t cs := (Below.heap_setCell w p v g hp).trans h
theorem RowAt.setRow {w : World} {g : Nat} {t : TypeId} {cs : Array Value} (h : RowAt w g t cs) (cs' : Array Value) : RowAt (w.setRow g cs') g t cs' := by
  unfold RowAt at h ⊢
  simp [World.setRow, Array.getElem?_modify, h]
theorem RowAt.setRow_far {w : World} {g k : Nat} {t : TypeId} {cs : Array Value} (h : RowAt w g t cs) (hk : g ≠ k) (cs' : Array Value) : RowAt (w.setRow k cs') g t cs := by
  unfold RowAt at h ⊢
  rw [← h]
  simp only [World.setRow, Array.getElem?_modify]
  rw [if_neg (by omega)]
theorem Below.setRow {B : Nat} {a w : World} (h : Below B a w) {g : Nat} (hg : B ≤ g) (cs : Array Value) : Below B a (w.setRow g cs) :=
  h.trans ⟨rfl, rfl, rfl, by simp [World.setRow], fun k hk => by simp only [World.setRow, Array.getElem?_modify]; rw [if_neg (by omega)]⟩

section
variable {P : Program}
theorem wpList_alloc_abs {ops : Array Oper} {rest : List Oper} {o : Oper} {a : Act} {w : World} {Q : Exit → Act → World → Prop} {t : TypeId} {Z : Array Value} {n : Nat}
    (hz : (P.info? t).map (fun i => (i.zero, i.size)) = some (some (.agg Z), n)) (hgd : o.guard = none) (ho : o.op = .alloc t)
    (h : wpList P ops Q rest (a.put o.dst (.pointer (some ⟨w.heap.size, 0, none⟩))) (w.alloc (.cells Z t))) : wpList P ops Q (o :: rest) a w := by
  refine wpList_plain hgd fun K hK => ?_
  have hz' : ∀ w, (zeroValue t).run P w = .ok (.agg Z) w := by
    intro w
    cases hq : P.info? t with
    | none => simp [hq] at hz
    | some i => simp [hq] at hz; simp [zeroValue, typeInfo, hq, hz.1]
  have hrun : (Instr.alloc t true (.tuple #[])).run P w = .ok (.pointer (some ⟨w.heap.size, 0, none⟩)) (w.alloc (.cells Z t)) := by
    simp [Instr.alloc, Sem.run_bind, hz', newVar, newRow, Value.cells]
  unfold Oper.wp execOp
  simp only [ho, Sem.run_bind, hrun, Result.andThen_ok, Sem.run_pure]
  exact hK _ _ h

theorem wpList_store_abs {ops : Array Oper} {rest : List Oper} {o : Oper} {a : Act} {w : World} {Q : Exit → Act → World → Prop} {t ty : TypeId} {x y : Operand} {g : Nat} {old cells : Array Value}
    (hr : RowAt w g t old) (hi : (P.info? ty).map (·.size) = some cells.size) (hold : old.size = cells.size) (h1 : cells.all (·.oneCell') = true)
    (hgd : o.guard = none) (ho : o.op = .store ty x y) (hx : a.eval x = .pointer (some ⟨g, 0, none⟩)) (hy : a.eval y = .agg cells)
    (h : ∀ w', Hid (w' = w.setRow g cells) → wpList P ops Q rest (a.put o.dst undef) w') : wpList P ops Q (o :: rest) a w := by
  refine wpList_plain hgd fun K hK => ?_
  unfold Oper.wp execOp
  simp only [ho, hx, hy, Instr.storeAt, Instr.sureAddr, Sem.run_bind, Sem.run_pure, Result.andThen_ok, run_storeVar_row w g t ty old cells hr hi hold h1]
  exact hK _ _ (h _ rfl)
theorem wpList_load_abs {ops : Array Oper} {rest : List Oper} {o : Oper} {a : Act} {w : World} {Q : Exit → Act → World → Prop} {t ty : TypeId} {x : Operand} {g : Nat} {cs : Array Value} {d : TypeDesc}
    (hr : RowAt w g t cs) (hu : P.underlying ty = some d) (hd : (match d with | .struct _ | .array _ _ => true | _ => false) = true) (hi : (P.info? ty).map (·.size) = some cs.size)
    (hgd : o.guard = none) (ho : o.op = .load ty x) (hx : a.eval x = .pointer (some ⟨g, 0, none⟩))
    (h : wpList P ops Q rest (a.put o.dst (.agg cs)) w) : wpList P ops Q (o :: rest) a w :=
  wpList_load_row hgd ty x ho g hx t cs (0, 0) d hr hu hd hi h
end
end Go.Proofs.Ytnomodbcpndocaa
