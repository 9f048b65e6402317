/-
  Collect of what Record makes, in plain mathematics.
-/
import Derived.Test.YticmopgpfplbnaaLaw6
namespace Go.Proofs.Yticmopgpfplbnaa
open Go.RowKit
set_option linter.unusedVariables false

/-- How many user blocks the first t sectors hold. -/
def usedN (N t : Nat) : Nat := t / (N + 7) * N + min (t % (N + 7) - 5) N
theorem usedN_zero (N : Nat) : usedN N 0 = 0 := by
  unfold usedN
  rw [Nat.zero_div, Nat.zero_mod]
  omega
theorem usedN_full (N c : Nat) : usedN N (c * (N + 7)) = c * N := by
  unfold usedN
  rw [Nat.mul_div_cancel _ (by omega), Nat.mul_mod_left]
  omega
theorem divmod_of {q r m : Nat} (h : r < m) : (q * m + r) / m = q ∧ (q * m + r) % m = r := by
  constructor
  · rw [Nat.mul_comm, Nat.mul_add_div (by omega), Nat.div_eq_of_lt h]
    omega
  · rw [Nat.mul_comm, Nat.mul_add_mod, Nat.mod_eq_of_lt h]
theorem usedN_succ (N t : Nat) : usedN N (t + 1) = usedN N t + (if userB N t then 1 else 0) ∧ (userB N t = true → usedN N t = t / (N + 7) * N + (t % (N + 7) - 5)) := by
  have hm := Nat.mod_lt t (show 0 < N + 7 by omega)
  have he : t / (N + 7) * (N + 7) + t % (N + 7) = t := by rw [Nat.mul_comm]; exact Nat.div_add_mod t (N + 7)
  unfold usedN userB
  generalize t / (N + 7) = q at *
  generalize t % (N + 7) = r at *
  by_cases hr : r + 1 < N + 7
  · obtain ⟨h1, h2⟩ := divmod_of (q := q) hr
    rw [show t + 1 = q * (N + 7) + (r + 1) by omega, h1, h2]
    by_cases hu : 5 ≤ r ∧ r < 5 + N
    · rw [if_pos (decide_eq_true hu)]
      omega
    · rw [if_neg (by simpa using hu)]
      refine ⟨by omega, fun h => absurd (of_decide_eq_true h) hu⟩
  · obtain ⟨h1, h2⟩ := divmod_of (q := q + 1) (r := 0) (show 0 < N + 7 by omega)
    rw [show t + 1 = (q + 1) * (N + 7) + 0 by rw [Nat.succ_mul]; omega, h1, h2, Nat.succ_mul]
    have hu : ¬ (5 ≤ r ∧ r < 5 + N) := by omega
    rw [if_neg (by simpa using hu)]
    refine ⟨by omega, fun h => absurd (of_decide_eq_true h) hu⟩
theorem recD_user {N : Nat} {ss : List ByteArray} {t : Nat} (h : userB N t = true) : recD N ss (t / (N + 7)) (t % (N + 7)) = ss[usedN N t]?.getD zeroBlk := by
  rw [(usedN_succ N t).2 h]
  unfold recD
  rw [if_pos (of_decide_eq_true h)]
theorem recD_skip {N : Nat} {ss : List ByteArray} {t : Nat} (h : userB N t = false) : recD N ss (t / (N + 7)) (t % (N + 7)) = zeroBlk := by
  unfold recD
  rw [if_neg (of_decide_eq_false h)]
/-- The blocks of a track that Record made. -/
theorem col_rec {N T : Nat} {s : Int} {ss : List ByteArray} {t : Nat} (ht : t ≤ T) : colUp N (recUp N s ss T) t = (List.range (usedN N t)).map fun i => ss[i]?.getD zeroBlk := by
  induction t with
  | zero => rw [usedN_zero]; rfl
  | succ t ih =>
    have hx := recUp_get (N := N) (s := s) (ss := ss) (t := T) (i := t) (by omega)
    cases hu : userB N t with
    | true =>
      rw [colUp_user hx hu, ih (by omega), (usedN_succ N t).1, hu, if_pos rfl, List.range_succ, List.map_append]
      simp only [List.map_cons, List.map_nil, recS]
      rw [recD_user hu]
    | false => rw [colUp_skip hu, ih (by omega), (usedN_succ N t).1, hu]; rfl
theorem blk_size {ss : List ByteArray} (h : blksOk ss = true) (i : Nat) : (ss[i]?.getD zeroBlk).size = 2048 := by
  cases hx : ss[i]? with
  | none => exact zeroBlk_size
  | some x =>
    have := List.all_eq_true.1 h x (List.mem_of_getElem? hx)
    simpa using this
theorem recD_size {N : Nat} {ss : List ByteArray} (h : blksOk ss = true) (r k : Nat) : (recD N ss r k).size = 2048 := by
  unfold recD
  split
  · exact blk_size h _
  · exact zeroBlk_size
theorem rec_pass {N T i : Nat} {s : Int} {ss : List ByteArray} (h : blksOk ss = true) (hs0 : 0 ≤ s) (hs1 : s + T - 1 ≤ 449849) (hi : i < T) : passB N (recUp N s ss T) i = true := by
  have hx := recUp_get (N := N) (s := s) (ss := ss) (t := T) hi
  rw [passB_eq hx]
  have h1 : secB (recS N s ss i) = true := by
    unfold secB recS
    dsimp only
    rw [recD_size h]
    simp
    omega
  have h2 : nextB (recUp N s ss T) i (recS N s ss i) = true := by
    cases i with
    | zero => exact nextB_zero _ _
    | succ j =>
      rw [nextB_succ (recUp_get (N := N) (s := s) (ss := ss) (t := T) (i := j) (by omega))]
      unfold recS
      dsimp only
      rw [decide_eq_true_iff]
      omega
  have h3 : (userB N i || (recS N s ss i).data.toList == zeroBlk.toList) = true := by
    cases hu : userB N i with
    | true => rfl
    | false =>
      unfold recS
      dsimp only
      rw [recD_skip hu]
      simp
  rw [h1, h2, h3]
  rfl
/-- Collect of a track that Record made. -/
theorem col_of_rec {N : Nat} {s : Int} {ss : List ByteArray} (hok : splitOk N ss = true) (hfit : recFit N s ss = true) :
    colE N (recUp N s ss (recN N ss)) = 0 ∧ colL N (recUp N s ss (recN N ss)) = (List.range (pkCount N ss.length * N)).map fun i => ss[i]?.getD zeroBlk := by
  have hsz : sizedB N = true := by
    unfold splitOk at hok
    simp only [Bool.and_eq_true] at hok
    exact hok.1
  have hbl : blksOk ss = true := by
    unfold splitOk at hok
    simp only [Bool.and_eq_true] at hok
    exact hok.2
  obtain ⟨f1, f2, f3⟩ := of_decide_eq_true hfit
  have hT : recN N ss = pkCount N ss.length * (N + 7) := rfl
  have hE : colE N (recUp N s ss (recN N ss)) = 0 := by
    refine colE_ok hsz ?_ fun i hi => ?_
    · rw [recUp_length, hT, Nat.mul_mod_left]
    · rw [recUp_length] at hi
      exact rec_pass hbl f1 f3 hi
  refine ⟨hE, ?_⟩
  unfold colL
  rw [if_pos hE, recUp_length]
  simp only [Int.toNat_natCast]
  rw [col_rec (Nat.le_refl _), hT, usedN_full]
theorem rec_in {N T : Nat} {s : Int} {ss : List ByteArray} (h : blksOk ss = true) (hs0 : 0 ≤ s) (hs1 : s + T - 1 ≤ 449849) : SecsIn (recUp N s ss T) := by
  intro x hx
  obtain ⟨i, hi⟩ := List.getElem?_of_mem hx
  have hl := (List.getElem?_eq_some_iff.1 hi).1
  rw [recUp_length] at hl
  rw [recUp_get hl] at hi
  injection hi with hi
  subst hi
  unfold recS
  dsimp only
  rw [recD_size h]
  unfold maxLen
  omega
end Go.Proofs.Yticmopgpfplbnaa
