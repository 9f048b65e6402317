/-
  Chapter 11, in plain Lean: packets of blocks, the sectors of a track, the blocks of sectors.
-/
namespace Go.Proofs.Yticmopgpfplbnaa

/-- Packet i of the blocks l, n to a packet, filled up by z. -/
def pk {α : Type} (n : Nat) (z : α) (l : List α) (i : Nat) : List α := (List.range n).map fun j => l[i * n + j]?.getD z
/-- How many packets n blocks to a packet make. -/
def pkCount (n len : Nat) : Nat := (len + n - 1) / n
def pks {α : Type} (n : Nat) (z : α) (l : List α) : List (List α) := (List.range (pkCount n l.length)).map (pk n z l)
theorem pk_length {α : Type} (n : Nat) (z : α) (l : List α) (i : Nat) : (pk n z l i).length = n := by simp [pk]
theorem pk_get {α : Type} {n : Nat} {z : α} {l : List α} {i j : Nat} (hj : j < n) : (pk n z l i)[j]? = some (l[i * n + j]?.getD z) := by simp [pk, hj]
theorem pks_length {α : Type} (n : Nat) (z : α) (l : List α) : (pks n z l).length = pkCount n l.length := by simp [pks]
theorem pks_get {α : Type} {n : Nat} {z : α} {l : List α} {i : Nat} (hi : i < pkCount n l.length) : (pks n z l)[i]? = some (pk n z l i) := by simp [pks, hi]
theorem count_lt {n len r : Nat} (hn : 0 < n) : r < pkCount n len ↔ r * n < len := by
  unfold pkCount
  rw [Nat.lt_iff_add_one_le, Nat.le_div_iff_mul_le hn, Nat.succ_mul]
  omega
theorem count_eq {n len r : Nat} (hn : 0 < n) (h1 : len ≤ r * n) (h2 : r * n < len + n) : pkCount n len = r := by
  unfold pkCount
  have : r * n ≤ len + n - 1 := by omega
  have h3 : len + n - 1 < (r + 1) * n := by rw [Nat.succ_mul]; omega
  exact Nat.le_antisymm (Nat.lt_succ_iff.1 ((Nat.div_lt_iff_lt_mul hn).2 h3)) ((Nat.le_div_iff_mul_le hn).2 this)
/-- The start of a packet, out of the blocks. -/
theorem pk_take {α : Type} {n : Nat} {z : α} {l : List α} {i t : Nat} (ht : t ≤ n) (hl : i * n + t ≤ l.length) : (pk n z l i).take t = (l.drop (i * n)).take t := by
  apply List.ext_getElem?
  intro j
  by_cases hj : j < t
  · rw [List.getElem?_take_of_lt hj, List.getElem?_take_of_lt hj, pk_get (by omega), List.getElem?_drop, List.getElem?_eq_getElem (by omega)]
    rfl
  · rw [List.getElem?_eq_none (by rw [List.length_take]; omega), List.getElem?_eq_none (by rw [List.length_take]; omega)]
theorem pk_snoc {α : Type} {n : Nat} {z : α} {l : List α} {i t : Nat} (ht : t < n) : (pk n z l i).take (t + 1) = (pk n z l i).take t ++ [l[i * n + t]?.getD z] := by
  rw [List.take_add_one, pk_get ht, Option.toList_some]
theorem pk_past {α : Type} {n : Nat} {z : α} {l : List α} {i t : Nat} (ht : t < n) (hl : l.length ≤ i * n + t) : (pk n z l i).take (t + 1) = (pk n z l i).take t ++ [z] := by
  rw [pk_snoc ht, List.getElem?_eq_none hl]
  rfl
theorem pk_all {α : Type} (n : Nat) (z : α) (l : List α) (i : Nat) : (pk n z l i).take n = pk n z l i := List.take_of_length_le (by rw [pk_length]; exact Nat.le_refl _)
theorem pks_take {α : Type} {n : Nat} {z : α} {l : List α} {r : Nat} (hr : r < pkCount n l.length) : (pks n z l).take (r + 1) = (pks n z l).take r ++ [pk n z l r] := by
  rw [List.take_add_one, pks_get hr, Option.toList_some]
end Go.Proofs.Yticmopgpfplbnaa
