/-
  An argument that is a slice, opened to the list of its elements, whatever an element is; a law of the element's cells is handed in.
-/
import Derived.Test.YtnomodbcpndocaaSl
import Derived.Deep.Slices
import Derived.ProofKit
import Derived.OpenShut
import Derived.ShutString
import Derived.ChangeOld
namespace Go.Proofs.Ytnomodbcpndocaa
open Go.ChangeShapes Go.WideShapes Go.ChangeAt Go.RowKit Go.Deep
set_option linter.unusedVariables false

/-- The slice reads as the list xs, each of whose elements is good. -/
def IsL {α : Type} (encA : α → List Value) (Good : α → Prop) (w : World) (a : Option Addr) (len cap : Nat) (xs : List α) : Prop :=
  xs.length = len ∧ len ≤ cap ∧ cap ≤ maxLen ∧ SlAt w w.heap.size a (flat encA xs) ∧ ∀ x ∈ xs, Good x

theorem flat_get_inv {α : Type} {encA : α → List Value} {k : Nat} (hk : ∀ x, (encA x).length = k) (hk0 : 0 < k) {xs : List α} {j : Nat} {u : Value} (h : (flat encA xs)[j]? = some u) : ∃ i r x, j = i * k + r ∧ r < k ∧ xs[i]? = some x ∧ (encA x)[r]? = some u := by
  have hj : j < xs.length * k := by
    have := (List.getElem?_eq_some_iff.1 h).1
    rwa [flat_length hk] at this
  have hi : j / k < xs.length := (Nat.div_lt_iff_lt_mul hk0).2 hj
  have he : j = j / k * k + j % k := by rw [Nat.mul_comm]; exact (Nat.div_add_mod j k).symm
  refine ⟨j / k, j % k, xs[j / k], he, Nat.mod_lt _ hk0, List.getElem?_eq_getElem hi, ?_⟩
  rw [← flat_get hk xs (j / k) (j % k) _ (List.getElem?_eq_getElem hi) (Nat.mod_lt _ hk0), ← he]
  exact h
theorem flat1 (ss : List ByteArray) : flat (fun s => [Value.string s]) ss = ss.map Value.string := by
  induction ss with
  | nil => rfl
  | cons s l ih => rw [flat_cons, ih]; rfl

section
variable {H : Type} {enc : TypeId × Value → H} {P : Program} {w : World} {base : Nat} {spare : Nat → Bool} {held : Bool}
theorem open_list {α : Type} [Inhabited α] {encA : α → List Value} {Good : α → Prop} {k : Nat} (hk : ∀ x, (encA x).length = k) (hk0 : 0 < k) {t e : TypeId} {fuel : Nat} {y : DataW H × List MemPlace} {a : Option Addr} {len cap : Nat}
    (ht : P.underlying t = some (.slice e)) (hC : P.cellsOf e = k) (el : ∀ n cs y, cs.length = k → DataW.trod enc P w base spare held n e cs = some y → ∃ x, cs = encA x ∧ Good x)
    (h : DataW.trod enc P w base spare held fuel t [.slice a len cap] = some y) : ∃ xs, IsL encA Good w a len cap xs := by
  rcases open_slice ht h with ⟨hc, _⟩ | ⟨ad, l, c, m, n, D, Pl, hc, hb, hl, hm, hmm, _, hx⟩
  · injection hc with hc _
    injection hc with h1 h2 h3
    subst h1 h2 h3
    exact ⟨[], rfl, Nat.le_refl _, by unfold maxLen; omega, SlAt.nil _ _ _, fun x hx => (List.not_mem_nil hx).elim⟩
  · injection hc with hc _
    injection hc with h1 h2 h3
    subst h1 h2 h3
    have hlm : len ≤ m := by rw [hmm]; split <;> omega
    rw [hC] at hx
    obtain ⟨V, hV⟩ := choose_lt (α := α) (n := len) (p := fun i x => w.cells? base (ad.add (i * k)) k = some (encA x) ∧ Good x) (fun i hi => by
      obtain ⟨cs', h1, h2⟩ := hx i (by omega)
      obtain ⟨_, hlen, _⟩ := World.cells?_some h1
      obtain ⟨x, rfl, hg⟩ := el _ _ _ hlen h2
      exact ⟨x, h1, hg⟩)
    have hVl : ((List.range len).map V).length = len := by simp
    have hcell : ∀ j u, (flat encA ((List.range len).map V))[j]? = some u → w.cell? (ad.add j) = some u := by
      intro j u hu
      obtain ⟨i, r, x, rfl, hr, hi, hu'⟩ := flat_get_inv hk hk0 hu
      have hil : i < len := by have := (List.getElem?_eq_some_iff.1 hi).1; rwa [hVl] at this
      have hix : V i = x := by simpa [hil] using hi
      obtain ⟨_, _, hat⟩ := World.cells?_some (hV i hil).1
      rw [← Go.Deep.add_add, hat r hr, hix]
      exact hu'
    refine ⟨(List.range len).map V, hVl, hl, hm, ?_, ?_⟩
    · by_cases h0 : 0 < len
      · have hp : 0 < (flat encA ((List.range len).map V)).length := by
          rw [flat_length hk, hVl]
          exact Nat.mul_pos h0 hk0
        have hbk : ad.block < w.heap.size := by
          have h6 := hcell 0 _ (List.getElem?_eq_getElem hp)
          have h7 := World.block_lt_of_cell? _ _ h6
          rwa [show (ad.add 0).block = ad.block by simp [Addr.add]] at h7
        exact SlAt.of_cells hbk hcell hp
      · have : (List.range len).map V = [] := List.eq_nil_of_length_eq_zero (by rw [hVl]; omega)
        rw [this]
        exact SlAt.nil _ _ _
    · intro x hx
      obtain ⟨i, hi⟩ := List.getElem?_of_mem hx
      have hil : i < len := by have := (List.getElem?_eq_some_iff.1 hi).1; rwa [hVl] at this
      have hix : V i = x := by simpa [hil] using hi
      rw [← hix]
      exact (hV i hil).2
theorem open_strs {t e : TypeId} {fuel : Nat} {y : DataW H × List MemPlace} {a : Option Addr} {len cap : Nat} (ht : P.underlying t = some (.slice e)) (he : P.underlying e = some .string) (hC : P.cellsOf e = 1)
    (h : DataW.trod enc P w base spare held fuel t [.slice a len cap] = some y) : ∃ xs, IsL (fun s => [Value.string s]) (fun s => s.size ≤ maxLen) w a len cap xs :=
  open_list (α := ByteArray) (encA := fun s => [Value.string s]) (Good := fun s => s.size ≤ maxLen) (k := 1) (fun _ => rfl) (by decide) ht hC (fun n cs y hl hy => by
    obtain ⟨s, rfl, rfl, hw⟩ := DataW.trod_string he hy
    exact ⟨s, rfl, hw⟩) h
end
theorem IsL.strs {w : World} {a : Option Addr} {len cap : Nat} {xs : List ByteArray} (h : IsL (fun s => [Value.string s]) (fun s => s.size ≤ maxLen) w a len cap xs) : xs.length = len ∧ len ≤ cap ∧ cap ≤ maxLen ∧ SlAt w w.heap.size a (xs.map Value.string) ∧ ∀ x ∈ xs, x.size ≤ maxLen := by
  obtain ⟨h1, h2, h3, h4, h5⟩ := h
  rw [flat1] at h4
  exact ⟨h1, h2, h3, h4, h5⟩
end Go.Proofs.Ytnomodbcpndocaa
