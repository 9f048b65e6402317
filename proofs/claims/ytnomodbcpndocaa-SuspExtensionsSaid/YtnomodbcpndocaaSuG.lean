/-
  Chapter 24: Indicated of both.
-/
import Derived.Test.YtnomodbcpndocaaSuF
namespace Go.Proofs.Ytnomodbcpndocaa
open Go.RowKit
set_option linter.unusedVariables false

def spS : ByteArray := ⟨#[83, 80, 7, 1, 190, 239]⟩
def indV (t : ByteArray) : Int := if t.size < 7 ∨ t.extract 0 6 ≠ spS then 0 else (nthB t 6 : Nat)
def indB (t : ByteArray) : Bool := if t.size < 7 ∨ t.extract 0 6 ≠ spS then false else true

set_option maxRecDepth 100000 in
set_option maxHeartbeats 1000000 in
theorem indicated_any (T : ByteArray) (w : World) : Calls Try.prog 26 #[.string T] w fun e w' => e = .returned (.tuple #[.int .i64 (indV T), .bool (indB T)]) ∧ w = w' := by
  unfold indV indB
  by_cases h4 : T.size < 7
  · have f1 : (T.size : Int) < 7 := by omega
    rw [if_pos (.inl h4), if_pos (.inl h4)]
    clear h4
    go_enter Try.func26, Try.ntmps26
    go_wp2_with fail
    go_ret2
    exact ⟨rfl, rfl⟩
  · have f1 : ¬ (T.size : Int) < 7 := by omega
    have f1b : (6 : Int) ≤ (T.size : Int) := by omega
    have f1c : (6 : Int) < (T.size : Int) := by omega
    have hl6 : 6 < T.size := by omega
    have hn6 := nthB_get T 6 hl6
    by_cases h5 : T.extract 0 6 = spS
    · have f3 : T.extract 0 6 = ⟨#[83, 80, 7, 1, 190, 239]⟩ := h5
      rw [if_neg (by rintro (h | h); exact h4 h; exact h h5), if_neg (by rintro (h | h); exact h4 h; exact h h5)]
      have hn6b := nthB_lt T 6
      have hw1 : wrap64 ((nthB T 6 : Nat) : Int) = ((nthB T 6 : Nat) : Int) := IntWalk.wrap64_in _ (by omega)
      have hw2 : IntKind.i64.wrap ((nthB T 6 : Nat) : Int) = ((nthB T 6 : Nat) : Int) := IntWalk.i64_in _ (by omega)
      clear h4 h5
      go_enter Try.func26, Try.ntmps26
      go_wp2_with fail
      go_ret2
      exact ⟨rfl, rfl⟩
    · have f3 : ¬ T.extract 0 6 = ⟨#[83, 80, 7, 1, 190, 239]⟩ := h5
      have f3b : ((T.extract 0 6).toList == [83, 80, 7, 1, 190, 239]) = false := by
        rw [beq_eq_false_iff_ne]
        intro h
        refine f3 (ByteArray.ext (Array.ext' ?_))
        rw [← ByteArray.toList_eq]
        exact h
      rw [if_pos (.inr h5), if_pos (.inr h5)]
      clear h4 h5
      go_enter Try.func26, Try.ntmps26
      go_wp2_with fail
      go_ret2
      exact ⟨rfl, rfl⟩
set_option maxRecDepth 100000 in
set_option maxHeartbeats 1000000 in
theorem rindicated_any (T : ByteArray) (w : World) : Calls Try.prog 27 #[.string T] w fun e w' => e = .returned (.tuple #[.int .i64 (indV T), .bool (indB T)]) ∧ w = w' := by
  unfold indV indB
  by_cases h4 : T.size < 7
  · have f1 : (T.size : Int) < 7 := by omega
    rw [if_pos (.inl h4), if_pos (.inl h4)]
    clear h4
    go_enter Try.func27, Try.ntmps27
    go_wp2_with fail
    go_ret2
    exact ⟨rfl, rfl⟩
  · have f1 : ¬ (T.size : Int) < 7 := by omega
    have f1b : (6 : Int) ≤ (T.size : Int) := by omega
    have f1c : (6 : Int) < (T.size : Int) := by omega
    have hl6 : 6 < T.size := by omega
    have hn6 := nthB_get T 6 hl6
    by_cases h5 : T.extract 0 6 = spS
    · have f3 : T.extract 0 6 = ⟨#[83, 80, 7, 1, 190, 239]⟩ := h5
      rw [if_neg (by rintro (h | h); exact h4 h; exact h h5), if_neg (by rintro (h | h); exact h4 h; exact h h5)]
      have hn6b := nthB_lt T 6
      have hw1 : wrap64 ((nthB T 6 : Nat) : Int) = ((nthB T 6 : Nat) : Int) := IntWalk.wrap64_in _ (by omega)
      have hw2 : IntKind.i64.wrap ((nthB T 6 : Nat) : Int) = ((nthB T 6 : Nat) : Int) := IntWalk.i64_in _ (by omega)
      clear h4 h5
      go_enter Try.func27, Try.ntmps27
      go_wp2_with fail
      go_ret2
      exact ⟨rfl, rfl⟩
    · have f3 : ¬ T.extract 0 6 = ⟨#[83, 80, 7, 1, 190, 239]⟩ := h5
      have f3b : ((T.extract 0 6).toList == [83, 80, 7, 1, 190, 239]) = false := by
        rw [beq_eq_false_iff_ne]
        intro h
        refine f3 (ByteArray.ext (Array.ext' ?_))
        rw [← ByteArray.toList_eq]
        exact h
      rw [if_pos (.inr h5), if_pos (.inr h5)]
      clear h4 h5
      go_enter Try.func27, Try.ntmps27
      go_wp2_with fail
      go_ret2
      exact ⟨rfl, rfl⟩
end Go.Proofs.Ytnomodbcpndocaa
