/-
  Record, in plain Lean: the sectors of a track of packets, and what Record answers.
-/
import Derived.Test.YticmopgpfplbnaaSplit
import Derived.Test.YticmopgpfplbnaaRec1
namespace Go.Proofs.Yticmopgpfplbnaa
open Go.RowKit
set_option linter.unusedVariables false

/-- The data of sector k of packet r. -/
def recD (N : Nat) (ss : List ByteArray) (r k : Nat) : ByteArray := if 5 ≤ k ∧ k < 5 + N then ss[r * N + (k - 5)]?.getD zeroBlk else zeroBlk
/-- The sector with number t of the track. -/
def recS (N : Nat) (s : Int) (ss : List ByteArray) (t : Nat) : Sec := ⟨s + t, 0, 0, 0, 0, 0, recD N ss (t / (N + 7)) (t % (N + 7))⟩
/-- The first t sectors of the track. -/
def recUp (N : Nat) (s : Int) (ss : List ByteArray) (t : Nat) : List Sec := (List.range t).map (recS N s ss)
theorem recUp_zero (N : Nat) (s : Int) (ss : List ByteArray) : recUp N s ss 0 = [] := rfl
theorem recUp_length (N : Nat) (s : Int) (ss : List ByteArray) (t : Nat) : (recUp N s ss t).length = t := by simp [recUp]
theorem recUp_snoc {N : Nat} {s : Int} {ss : List ByteArray} {t r k : Nat} (ht : t = r * (N + 7) + k) (hk : k < N + 7) {d : ByteArray} (hd : recD N ss r k = d) : recUp N s ss t ++ [⟨s + t, 0, 0, 0, 0, 0, d⟩] = recUp N s ss (t + 1) := by
  have h1 : t / (N + 7) = r := by rw [ht, Nat.mul_comm, Nat.mul_add_div (by omega), Nat.div_eq_of_lt hk]; omega
  have h2 : t % (N + 7) = k := by rw [ht, Nat.mul_comm, Nat.mul_add_mod, Nat.mod_eq_of_lt hk]
  unfold recUp
  rw [List.range_succ, List.map_append]
  simp only [List.map_cons, List.map_nil, recS]
  rw [h1, h2, hd]
theorem recUp_get {N : Nat} {s : Int} {ss : List ByteArray} {t i : Nat} (hi : i < t) : (recUp N s ss t)[i]? = some (recS N s ss i) := by simp [recUp, hi]
theorem recD_low {N : Nat} {ss : List ByteArray} {r k : Nat} (h : k < 5) : recD N ss r k = zeroBlk := if_neg (by omega)
theorem recD_high {N : Nat} {ss : List ByteArray} {r k : Nat} (h : 5 + N ≤ k) : recD N ss r k = zeroBlk := if_neg (by omega)
theorem recD_mid {N : Nat} {ss : List ByteArray} {r k : Nat} (h : k < N) : recD N ss r (5 + k) = ss[r * N + k]?.getD zeroBlk := by
  unfold recD
  rw [if_pos (by omega), show 5 + k - 5 = k by omega]

theorem pkCount_le {N len : Nat} (h : 1 ≤ N) : pkCount N len ≤ len := by
  unfold pkCount
  have : len * 1 ≤ len * N := Nat.mul_le_mul_left _ h
  exact Nat.lt_succ_iff.1 ((Nat.div_lt_iff_lt_mul h).2 (by rw [Nat.succ_mul]; omega))
/-- The number of the track's sectors. -/
def recN (n : Int) (ss : List ByteArray) : Nat := pkCount n.toNat ss.length * (n.toNat + 7)
def recFit (n s : Int) (ss : List ByteArray) : Bool := decide (0 ≤ s ∧ s ≤ 449849 ∧ s + recN n ss - 1 ≤ 449849)
def recOk (n s : Int) (ss : List ByteArray) : Bool := splitOk n ss && recFit n s ss
def recL (n s : Int) (ss : List ByteArray) : List Sec := if recOk n s ss then recUp n.toNat s ss (recN n ss) else []
def recE (n s : Int) (ss : List ByteArray) : Int := if splitOk n ss then (if recFit n s ss then 0 else 2) else 1
/-- What Record answers, and where it lies. -/
def RecR (n s : Int) (ss : List ByteArray) (w : World) (e : Ending) (w' : World) : Prop :=
  Below w.heap.size w w' ∧ ∃ A c, e = .returned (.tuple #[.slice A (recL n s ss).length c, .int .i64 (recE n s ss)]) ∧ SlAt w' w'.heap.size A (flat encS (recL n s ss))
theorem RecR.arg {n s : Int} {ss : List ByteArray} {w w' : World} {e : Ending} (h : splitOk n ss = false) (he : e = .returned (.tuple #[.slice none 0 0, .int .i64 1])) (hb : Below w.heap.size w w') : RecR n s ss w e w' := by
  have h1 : recL n s ss = [] := if_neg (by simp [recOk, h])
  have h2 : recE n s ss = 1 := if_neg (by simp [h])
  refine ⟨hb, none, 0, ?_, ?_⟩
  · rw [h1, h2, he]; rfl
  · rw [h1]; exact SlAt.nil _ _ _
theorem RecR.range {n s : Int} {ss : List ByteArray} {w w' : World} {e : Ending} (h : splitOk n ss = true) (h' : recFit n s ss = false) (he : e = .returned (.tuple #[.slice none 0 0, .int .i64 2])) (hb : Below w.heap.size w w') : RecR n s ss w e w' := by
  have h1 : recL n s ss = [] := if_neg (by simp [recOk, h'])
  have h2 : recE n s ss = 2 := by unfold recE; rw [if_pos h, if_neg (by simp [h'])]
  refine ⟨hb, none, 0, ?_, ?_⟩
  · rw [h1, h2, he]; rfl
  · rw [h1]; exact SlAt.nil _ _ _
theorem RecR.ok {n s : Int} {ss : List ByteArray} {w w' : World} {e : Ending} {A : Option Addr} {c t : Nat} (h : splitOk n ss = true) (h' : recFit n s ss = true) (ht : t = recN n ss) (he : e = .returned (.tuple #[.slice A t c, .int .i64 0])) (hb : Below w.heap.size w w')
    (hs : SlAt w' w'.heap.size A (flat encS (recUp n.toNat s ss t))) : RecR n s ss w e w' := by
  subst ht
  have h1 : recL n s ss = recUp n.toNat s ss (recN n ss) := if_pos (by simp [recOk, h, h'])
  have h2 : recE n s ss = 0 := by unfold recE; rw [if_pos h, if_pos h']
  refine ⟨hb, A, c, ?_, ?_⟩
  · rw [h1, h2, he, recUp_length]
  · rw [h1]; exact hs
end Go.Proofs.Yticmopgpfplbnaa
