/-
  Chapter 52: Flush, the plain words: the row of blocks and the writes that it is parted into.
-/
import Derived.Test.YtdmdfpdigoijoaaPwL
import Derived.Test.YtdmdfpdigoijoaaPwZ
namespace Go.Proofs.Ytdmdfpdigoijoaa
open Go.RowKit
set_option linter.unusedVariables false

/-- The row of n blocks: zero, but for the pending ones. -/
def flRow (ba : Int) (n : Nat) (l : List Pend) : List ByteArray := l.foldl (fun r x => r.set (x.lba - ba).toNat x.blk) (List.replicate n (fillS 0))
/-- The last one is the control block, if there is one. -/
def flCtl (ctl : ByteArray) (row : List ByteArray) : List ByteArray := if ctl.toList = [] then row else row.set (row.length - 1) ctl
def flAll (st ba : Int) (l : List Pend) (ctl : ByteArray) : List ByteArray := flCtl ctl (flRow ba (ctlL st ba l + 1 - ba).toNat l)
/-- Write j of m: 8 blocks of the row in block g. -/
def flW (g : Nat) (ba : Int) (row : List ByteArray) (m j : Nat) : Wr := ⟨ba + 8 * (j : Int), some ⟨g, 8 * j, none⟩, 8, (row.drop (8 * j)).take 8, decide (j + 1 = m), false⟩
def flWs (g : Nat) (ba : Int) (row : List ByteArray) (m k : Nat) : List Wr := (List.range k).map (flW g ba row m)
def flE (st ba : Int) (l : List Pend) (ctl : ByteArray) : Int :=
  if ctl.toList ≠ [] ∧ ctl.size ≠ 2048 then 1 else if openL l ≠ [] then 8 else if l = [] ∧ ctl.toList = [] then 0 else if 4096 < ctlL st ba l + 1 then 12 else 0
theorem flRow_snoc (ba : Int) (n : Nat) (l : List Pend) (x : Pend) : flRow ba n (l ++ [x]) = (flRow ba n l).set (x.lba - ba).toNat x.blk := by
  unfold flRow
  rw [List.foldl_append]
  rfl
theorem flRow_length (ba : Int) (n : Nat) (l : List Pend) : (flRow ba n l).length = n := by
  suffices h : ∀ (l : List Pend) (r : List ByteArray), (l.foldl (fun r x => r.set (x.lba - ba).toNat x.blk) r).length = r.length by
    unfold flRow
    rw [h, List.length_replicate]
  intro l
  induction l with
  | nil => intro r; rfl
  | cons x t ih => intro r; rw [List.foldl_cons, ih, List.length_set]
theorem flCtl_length (ctl : ByteArray) (row : List ByteArray) : (flCtl ctl row).length = row.length := by
  unfold flCtl
  split
  · rfl
  · rw [List.length_set]
theorem flWs_succ (g : Nat) (ba : Int) (row : List ByteArray) (m k : Nat) : flWs g ba row m (k + 1) = flWs g ba row m k ++ [flW g ba row m k] := by
  unfold flWs
  rw [List.range_succ, List.map_append]
  rfl
theorem flWs_length (g : Nat) (ba : Int) (row : List ByteArray) (m k : Nat) : (flWs g ba row m k).length = k := by unfold flWs; rw [List.length_map, List.length_range]
theorem flWs_before (g : Nat) (ba : Int) (row : List ByteArray) (k : Nat) : flWs g ba row (k + 1) k = flWs g ba row 0 k := by
  unfold flWs
  refine List.map_congr_left fun j hj => ?_
  have hj := List.mem_range.1 hj
  unfold flW
  have e1 : decide (j + 1 = k + 1) = false := decide_eq_false (by omega)
  have e2 : decide (j + 1 = 0) = false := decide_eq_false (by omega)
  rw [e1, e2]
theorem flat_encW_length (l : List Wr) : (flat encW l).length = 4 * l.length := by
  unfold flat
  induction l with
  | nil => rfl
  | cons x t ih => rw [List.flatMap_cons, List.length_append, ih, List.length_cons]; show 4 + _ = _; omega
/-- The last write's Sync set. -/
theorem flat_sync (g : Nat) (ba : Int) (row : List ByteArray) (k : Nat) : (flat encW (flWs g ba row 0 (k + 1))).set (4 * k + 2) (.bool true) = flat encW (flWs g ba row (k + 1) (k + 1)) := by
  rw [flWs_succ, flWs_succ, flWs_before, flat_snoc, flat_snoc, List.set_append_right _ _ (by rw [flat_encW_length, flWs_length]; omega), flat_encW_length, flWs_length, show 4 * k + 2 - 4 * k = 2 by omega]
  have e1 : decide (k + 1 = k + 1) = true := decide_eq_true rfl
  have e2 : decide (k + 1 = 0) = false := decide_eq_false (by omega)
  unfold flW encW
  rw [e1, e2]
  rfl
end Go.Proofs.Ytdmdfpdigoijoaa
