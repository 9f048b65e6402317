/-
  Collect, in plain Lean: which sectors pass, the blocks that they hold, and what Collect answers.
-/
import Derived.Test.YticmopgpfplbnaaRecP
namespace Go.Proofs.Yticmopgpfplbnaa
open Go.RowKit
set_option linter.unusedVariables false

def userB (N i : Nat) : Bool := decide (5 ≤ i % (N + 7) ∧ i % (N + 7) < 5 + N)
/-- Sector i follows the one ahead of it. -/
def nextB (l : List Sec) (i : Nat) (x : Sec) : Bool := match l[i - 1]? with | some y => i == 0 || decide (x.lba = y.lba + 1) | none => i == 0
def passB (N : Nat) (l : List Sec) (i : Nat) : Bool := match l[i]? with | some x => secB x && (nextB l i x && (userB N i || x.data.toList == zeroBlk.toList)) | none => true
/-- The blocks of the first t sectors. -/
def colUp (N : Nat) (l : List Sec) : Nat → List ByteArray
  | 0 => []
  | t + 1 => colUp N l t ++ (if userB N t then (match l[t]? with | some x => [x.data] | none => []) else [])
theorem colUp_user {N t : Nat} {l : List Sec} {x : Sec} (hx : l[t]? = some x) (h : userB N t = true) : colUp N l (t + 1) = colUp N l t ++ [x.data] := by
  show _ ++ _ = _
  rw [if_pos h, hx]
theorem colUp_skip {N t : Nat} {l : List Sec} (h : userB N t = false) : colUp N l (t + 1) = colUp N l t := by
  show _ ++ _ = _
  rw [if_neg (by simp [h]), List.append_nil]
theorem colUp_le (N : Nat) (l : List Sec) (t : Nat) : (colUp N l t).length ≤ t := by
  induction t with
  | zero => exact Nat.le_refl _
  | succ t ih =>
    show (colUp N l t ++ _).length ≤ _
    rw [List.length_append]
    split
    · cases l[t]? <;> simp <;> omega
    · simp; omega

def colAll (N : Nat) (l : List Sec) : Bool := (List.range l.length).all (passB N l)
def colE (n : Int) (l : List Sec) : Int := if sizedB n then (if l.length % (n.toNat + 7) = 0 then (if colAll n.toNat l then 0 else 10) else 10) else 1
def colL (n : Int) (l : List Sec) : List ByteArray := if colE n l = 0 then colUp n.toNat l l.length else []
/-- What Collect answers, and where it lies. -/
def ColR (n : Int) (l : List Sec) (w : World) (e : Ending) (w' : World) : Prop :=
  Below w.heap.size w w' ∧ ∃ A c, e = .returned (.tuple #[.slice A (colL n l).length c, .int .i64 (colE n l)]) ∧ SlAt w' w'.heap.size A ((colL n l).map Value.string)
theorem ColR.no {n E : Int} {l : List Sec} {w w' : World} {e : Ending} (h : colE n l = E) (hE : E ≠ 0) (he : e = .returned (.tuple #[.slice none 0 0, .int .i64 E])) (hb : Below w.heap.size w w') : ColR n l w e w' := by
  have h1 : colL n l = [] := if_neg (by rw [h]; exact hE)
  refine ⟨hb, none, 0, ?_, ?_⟩
  · rw [h1, h, he]; rfl
  · rw [h1]; exact SlAt.nil _ _ _
theorem colE_size {n : Int} {l : List Sec} (h : sizedB n = false) : colE n l = 1 := by unfold colE; rw [h]; rfl
theorem colE_len {N : Nat} {l : List Sec} (h : sizedB N = true) (h' : l.length % (N + 7) ≠ 0) : colE N l = 10 := by
  unfold colE
  rw [if_pos h, if_neg (by simpa using h')]
theorem colE_bad {N i : Nat} {l : List Sec} (h : sizedB N = true) (hi : i < l.length) (h' : passB N l i = false) : colE N l = 10 := by
  unfold colE
  rw [if_pos h]
  split
  · rw [if_neg]
    unfold colAll
    simp only [Int.toNat_natCast]
    rw [Bool.not_eq_true, List.all_eq_false]
    exact ⟨i, List.mem_range.2 hi, by simp [h']⟩
  · rfl
theorem colE_ok {N : Nat} {l : List Sec} (h : sizedB N = true) (hm : l.length % (N + 7) = 0) (h' : ∀ i, i < l.length → passB N l i = true) : colE N l = 0 := by
  unfold colE
  rw [if_pos h, if_pos (by simpa using hm), if_pos]
  unfold colAll
  rw [List.all_eq_true]
  intro i hi
  simpa using h' i (List.mem_range.1 hi)
theorem ColR.yes {N : Nat} {l : List Sec} {w w' : World} {e : Ending} {A : Option Addr} {c t : Nat} (h : colE N l = 0) (ht : t = (colUp N l l.length).length) (he : e = .returned (.tuple #[.slice A t c, .int .i64 0])) (hb : Below w.heap.size w w')
    (hs : SlAt w' w'.heap.size A ((colUp N l l.length).map Value.string)) : ColR N l w e w' := by
  have h1 : colL N l = colUp N l l.length := by unfold colL; rw [if_pos h]; rfl
  refine ⟨hb, A, c, ?_, ?_⟩
  · rw [h1, h, he, ht]
  · rw [h1]; exact hs

theorem nextB_zero (l : List Sec) (x : Sec) : nextB l 0 x = true := by
  unfold nextB
  cases l[0 - 1]? <;> rfl
theorem nextB_succ {l : List Sec} {i : Nat} {x y : Sec} (hy : l[i]? = some y) : nextB l (i + 1) x = decide (x.lba = y.lba + 1) := by
  unfold nextB
  rw [Nat.add_sub_cancel, hy]
  simp
theorem passB_eq {N i : Nat} {l : List Sec} {x : Sec} (hx : l[i]? = some x) : passB N l i = (secB x && (nextB l i x && (userB N i || x.data.toList == zeroBlk.toList))) := by
  unfold passB
  rw [hx]
theorem passB_sec {N i : Nat} {l : List Sec} {x : Sec} (hx : l[i]? = some x) (h : passB N l i = true) : -150 ≤ x.lba ∧ x.lba ≤ 449849 := by
  rw [passB_eq hx] at h
  simp only [Bool.and_eq_true] at h
  have h1 := h.1
  unfold secB at h1
  simp only [Bool.and_eq_true] at h1
  exact of_decide_eq_true h1.1
/-- A valid sector of Mode 1, of the reference and of the program. -/
theorem secB_valid (x : Sec) : secB x = (validB x && decide (x.mode = 0)) := by
  unfold secB validB
  by_cases hm : x.mode = 0
  · have h1 : modeOk x.mode = true := modeOk_iff.2 (.inl hm)
    have h2 : lCap x.mode = 2048 := by rw [hm]; rfl
    have h3 : subOk x = decide (x.fi = 0 ∧ x.ch = 0 ∧ x.su = 0 ∧ x.co = 0) := by unfold subOk; rw [if_pos hm]
    rw [h1, h2, h3, decide_eq_true hm, Bool.eq_iff_iff]
    simp [hm]
    omega
  · rw [decide_eq_false hm, Bool.and_false, Bool.eq_false_iff]
    simp [hm]
end Go.Proofs.Yticmopgpfplbnaa
