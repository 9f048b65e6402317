/-
  Chapter 52, in plain Lean: writes, their steps, images.
-/
import Derived.Test.YtdmdfpdigoijoaaKit
namespace Go.Proofs.Ytdmdfpdigoijoaa
open Go.RowKit
set_option linter.unusedVariables false

/-- A write; A and cap tell where its blocks lie. -/
structure Wr where
  pos : Int
  A : Option Addr
  cap : Nat
  bl : List ByteArray
  sync : Bool
  close : Bool
structure Stp where
  pos : Int
  b : ByteArray
  cl : Bool
abbrev Img := List ByteArray
def blankS : ByteArray := ⟨#[]⟩
def unrS : ByteArray := ⟨#[33]⟩
def blkOk (b : ByteArray) : Bool := decide (b.size = 2048)
def elOk (b : ByteArray) : Bool := decide (b.toList = []) || (decide (b.toList = [33]) || blkOk b)
def wrOk (x : Wr) : Bool := decide (0 ≤ x.pos) && (decide (x.pos ≤ 4096) && (decide ((x.bl.length : Int) ≤ 4096 - x.pos) && (!(x.close && decide (0 < x.bl.length)) && x.bl.all blkOk)))
def imgOk (img : Img) : Bool := decide (img.length ≤ 4096) && img.all elOk
def validB (img : Img) (ws : List Wr) : Bool := decide (img.length ≤ 4096) && (decide (ws.length ≤ 1024) && (img.all elOk && ws.all wrOk))

/-- The first k steps of the blocks of a write. -/
def stepsB (x : Wr) (k : Nat) : List Stp := (List.range k).map fun i : Nat => ⟨wrap64 (x.pos + (i : Int)), x.bl[i]?.getD blankS, false⟩
def stepsW (x : Wr) : List Stp := stepsB x x.bl.length ++ if x.close then [⟨0, blankS, true⟩] else []
def stepsL (ws : List Wr) : List Stp := ws.flatMap stepsW
theorem stepsB_length (x : Wr) (k : Nat) : (stepsB x k).length = k := by simp [stepsB]
theorem stepsB_succ (x : Wr) (k : Nat) : stepsB x (k + 1) = stepsB x k ++ [⟨wrap64 (x.pos + (k : Int)), x.bl[k]?.getD blankS, false⟩] := by simp [stepsB, List.range_succ]
theorem stepsW_length (x : Wr) : (stepsW x).length = x.bl.length + if x.close then 1 else 0 := by
  unfold stepsW
  rw [List.length_append, stepsB_length]
  cases x.close <;> rfl
theorem stepsL_take {ws : List Wr} {k : Nat} {x : Wr} (h : ws[k]? = some x) : stepsL (ws.take (k + 1)) = stepsL (ws.take k) ++ stepsW x := by
  unfold stepsL
  rw [List.take_add_one, h]
  simp
theorem stepsL_pre (ws : List Wr) (k : Nat) : stepsL (ws.take k) <+: stepsL ws := ⟨stepsL (ws.drop k), by
  unfold stepsL
  rw [← List.flatMap_append, List.take_append_drop]⟩
theorem stepsL_part {ws : List Wr} {k : Nat} {x : Wr} (h : ws[k]? = some x) {p : List Stp} (hp : p <+: stepsW x) : stepsL (ws.take k) ++ p <+: stepsL ws := by
  refine List.IsPrefix.trans ?_ (stepsL_pre ws (k + 1))
  rw [stepsL_take h]
  exact (List.prefix_append_right_inj _).2 hp
theorem stepsB_pre {x : Wr} {k : Nat} (h : k ≤ x.bl.length) : stepsB x k <+: stepsW x := by
  refine List.IsPrefix.trans ?_ (List.prefix_append _ _)
  refine ⟨(stepsB x x.bl.length).drop k, ?_⟩
  have : stepsB x k = (stepsB x x.bl.length).take k := by
    unfold stepsB
    rw [← List.map_take, List.take_range, Nat.min_eq_left h]
  rw [this, List.take_append_drop]
/-- The number of the steps. -/
def nSt (ws : List Wr) : Nat := (stepsL ws).length
theorem nSt_take {ws : List Wr} {k : Nat} {x : Wr} (h : ws[k]? = some x) : nSt (ws.take (k + 1)) = nSt (ws.take k) + (x.bl.length + if x.close then 1 else 0) := by
  unfold nSt
  rw [stepsL_take h, List.length_append, stepsW_length]

theorem steps_at {ws : List Wr} {k i : Nat} {x : Wr} (h : ws[k]? = some x) (hi : i < x.bl.length) : (stepsL ws)[nSt (ws.take k) + i]? = some ⟨wrap64 (x.pos + (i : Int)), x.bl[i]?.getD blankS, false⟩ := by
  obtain ⟨t, ht⟩ := stepsL_pre ws (k + 1)
  rw [stepsL_take h] at ht
  rw [← ht]
  unfold nSt stepsW
  rw [List.getElem?_append_left (by rw [List.length_append, List.length_append, stepsB_length]; omega), List.getElem?_append_right (by omega), Nat.add_sub_cancel_left, List.getElem?_append_left (by rw [stepsB_length]; exact hi)]
  simp [stepsB, hi]
theorem steps_close {ws : List Wr} {k : Nat} {x : Wr} (h : ws[k]? = some x) (hc : x.close = true) : (stepsL ws)[nSt (ws.take k) + x.bl.length]? = some ⟨0, blankS, true⟩ := by
  obtain ⟨t, ht⟩ := stepsL_pre ws (k + 1)
  rw [stepsL_take h] at ht
  rw [← ht]
  unfold nSt stepsW
  rw [hc, if_pos rfl, List.getElem?_append_left (by rw [List.length_append, List.length_append, stepsB_length]; simp), List.getElem?_append_right (by omega), Nat.add_sub_cancel_left, List.getElem?_append_right (by rw [stepsB_length]; omega), stepsB_length, Nat.sub_self]
  rfl
theorem nSt_le (ws : List Wr) (k : Nat) : nSt (ws.take k) ≤ nSt ws := (stepsL_pre ws k).length_le
def putL (img : Img) (a : Nat) (b : ByteArray) : Img := (img ++ List.replicate (a + 1 - img.length) blankS).set a b
theorem putL_length (img : Img) (a : Nat) (b : ByteArray) : (putL img a b).length = max img.length (a + 1) := by
  unfold putL
  rw [List.length_set, List.length_append, List.length_replicate]
  omega
/-- Step number k of a list that is cut after n steps. -/
def apS (n k : Nat) (s : Stp) (out : Img) : Img := if s.cl then out else putL out s.pos.toNat (if k < n then s.b else unrS)
def cutK (n : Nat) (steps : List Stp) (img : Img) : Nat → Img
  | 0 => img
  | k + 1 => match steps[k]? with
    | some s => apS n k s (cutK n steps img k)
    | none => cutK n steps img k
theorem cutK_succ {n : Nat} {steps : List Stp} {img : Img} {k : Nat} {s : Stp} (h : steps[k]? = some s) : cutK n steps img (k + 1) = apS n k s (cutK n steps img k) := by
  show (match steps[k]? with | some s => _ | none => _) = _
  rw [h]
theorem cutK_pre {n : Nat} {p steps : List Stp} {img : Img} (h : p <+: steps) : ∀ k, k ≤ p.length → cutK n p img k = cutK n steps img k
  | 0, _ => rfl
  | k + 1, hk => by
    obtain ⟨t, rfl⟩ := h
    have h1 : p[k]? = some p[k] := List.getElem?_eq_getElem (by omega)
    rw [cutK_succ h1, cutK_succ (s := p[k]) (by rw [List.getElem?_append_left (by omega)]; exact h1), cutK_pre ⟨t, rfl⟩ k (by omega)]
def cutL (n : Nat) (steps : List Stp) (img : Img) : Img := cutK n steps img (min (n + 1) steps.length)
/-- What Cut answers. -/
def cutR (img : Img) (ws : List Wr) (n : Int) : Img × Int :=
  if validB img ws then (if n < 0 ∨ (nSt ws : Int) < n then ([], 2) else (cutL n.toNat (stepsL ws) img, 0)) else ([], 1)
end Go.Proofs.Ytdmdfpdigoijoaa
