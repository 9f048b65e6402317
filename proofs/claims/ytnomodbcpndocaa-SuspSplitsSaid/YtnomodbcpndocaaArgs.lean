/-
  What the walks are told of a slice that came in.
-/
import Derived.Test.YtnomodbcpndocaaSl
namespace Go.Proofs.Ytnomodbcpndocaa
open Go.RowKit
set_option linter.unusedVariables false

/-- A slice of integers that came in. -/
def IsRow (k : IntKind) (w : World) (a : Option Addr) (len cap : Nat) (zs : List Int) : Prop :=
  (a = none ∧ len = 0 ∧ cap = 0 ∧ zs = []) ∨
  ∃ x, a = some x ∧ len ≤ cap ∧ cap ≤ maxLen ∧ zs.length = cap ∧ (∀ i, i < zs.length → w.cell? (x.add i) = some (.int k (zs.getD i 0))) ∧ ∀ n ∈ zs, (Lit.int k n).wf = true
theorem IsRow.out {w : World} {a : Option Addr} {len cap : Nat} {zs : List Int} (h : IsRow .i64 w a len cap zs) :
    ∃ xs : List Int, xs.length = len ∧ len ≤ maxLen ∧ SlAt w w.heap.size a (xs.map (Value.int .i64)) ∧ ∀ (k : Nat) z, xs[k]? = some z → -9223372036854775808 ≤ z ∧ z ≤ 9223372036854775807 := by
  rcases h with ⟨rfl, rfl, rfl, rfl⟩ | ⟨x, rfl, h1, h2, h3, h4, h5⟩
  · exact ⟨[], rfl, by unfold maxLen; omega, SlAt.nil _ _ _, fun k z h => by simp at h⟩
  · refine ⟨zs.take len, by rw [List.length_take]; omega, by omega, ?_, ?_⟩
    · by_cases h0 : 0 < (zs.take len).length
      · have hc : ∀ j u, ((zs.take len).map (Value.int .i64))[j]? = some u → w.cell? (x.add j) = some u := by
          intro j u hu
          rw [List.getElem?_map, List.getElem?_take] at hu
          split at hu
          · have hj : j < zs.length := by rw [List.length_take] at h0; omega
            rw [h4 j hj]
            rw [List.getElem?_eq_getElem hj] at hu
            simpa [List.getD_eq_getElem?_getD, List.getElem?_eq_getElem hj] using hu
          · simp at hu
        have hb : x.block < w.heap.size := by
          have h6 := hc 0 _ (List.getElem?_eq_getElem (by simpa using h0))
          have h7 := World.block_lt_of_cell? _ _ h6
          rwa [show (x.add 0).block = x.block by simp [Addr.add]] at h7
        exact SlAt.of_cells hb hc (by simpa using h0)
      · have : zs.take len = [] := List.eq_nil_of_length_eq_zero (by omega)
        rw [this]
        exact SlAt.nil _ _ _
    · intro k z hk
      have hm := List.mem_of_getElem? hk
      have := wf_i64 (h5 z (List.mem_of_mem_take hm))
      omega

end Go.Proofs.Ytnomodbcpndocaa
