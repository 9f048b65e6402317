/-
  The walks of counts and place of the program, and of place of the reference: the kind and the index of a sector of a packet.
-/
import Derived.Test.YticmopgpfplbnaaKit
import Derived.Handy
namespace Go.Proofs.Yticmopgpfplbnaa
open Go.RowKit
set_option linter.unusedVariables false

/-- The kind and the index of the sector at_ of a packet of size user blocks. -/
def kindOf (size at_ : Int) : Int := if at_ = 0 then 0 else if at_ < 5 then 1 else if at_ < 5 + size then 2 else 3
def idxOf (size at_ : Int) : Int := if at_ = 0 then 0 else if at_ < 5 then at_ - 1 else if at_ < 5 + size then at_ - 5 else at_ - 5 - size
def placeV (p size at_ : Int) : Value := .agg #[.int .i64 p, .int .i64 (kindOf size at_), .int .i64 (idxOf size at_)]

theorem placeV0 (p size : Int) : placeV p size 0 = .agg #[.int .i64 p, .int .i64 0, .int .i64 0] := rfl
theorem placeV1 (p size at_ : Int) (h0 : at_ ≠ 0) (h : at_ < 5) : placeV p size at_ = .agg #[.int .i64 p, .int .i64 1, .int .i64 (at_ - 1)] := by
  rw [placeV, kindOf, idxOf, if_neg h0, if_pos h, if_neg h0, if_pos h]
theorem placeV2 (p size at_ : Int) (h0 : at_ ≠ 0) (h : ¬ at_ < 5) (h2 : at_ < 5 + size) : placeV p size at_ = .agg #[.int .i64 p, .int .i64 2, .int .i64 (at_ - 5)] := by
  rw [placeV, kindOf, idxOf, if_neg h0, if_neg h, if_pos h2, if_neg h0, if_neg h, if_pos h2]
theorem placeV3 (p size at_ : Int) (h0 : at_ ≠ 0) (h : ¬ at_ < 5) (h2 : ¬ at_ < 5 + size) : placeV p size at_ = .agg #[.int .i64 p, .int .i64 3, .int .i64 (at_ - 5 - size)] := by
  rw [placeV, kindOf, idxOf, if_neg h0, if_neg h, if_neg h2, if_neg h0, if_neg h, if_neg h2]

theorem rplace_any (p size at_ : Int) (w : World) (h0 : 0 ≤ at_) (h1 : at_ < 7 + size) (hs1 : 1 ≤ size) (hs2 : size ≤ 1024) :
    Calls Try.prog 33 #[.int .i64 p, .int .i64 size, .int .i64 at_] w fun e w' => e = .returned (placeV p size at_) ∧ Below w.heap.size w w' := by
  by_cases c0 : at_ = 0
  · subst c0
    rw [placeV0]
    go_enter Try.func33, Try.ntmps33
    go_wp2
    exact bodyPost_ret (v := .agg #[.int .i64 p, .int .i64 0, .int .i64 0]) (by simp [results, Try.results33, go_sem]) rfl ⟨rfl, (Below.refl _ _).alloc (Nat.le_refl _) _⟩
  · have h3 : (at_ == 0) = false := by simpa using c0
    by_cases c1 : at_ < 5
    · rw [placeV1 p size at_ c0 c1]
      go_enter Try.func33, Try.ntmps33
      go_wp2
      exact bodyPost_ret (v := .agg #[.int .i64 p, .int .i64 1, .int .i64 (at_ - 1)]) (by simp [results, Try.results33, go_sem]) rfl ⟨rfl, (Below.refl _ _).alloc (Nat.le_refl _) _⟩
    · by_cases c2 : at_ < 5 + size
      · rw [placeV2 p size at_ c0 c1 c2]
        go_enter Try.func33, Try.ntmps33
        go_wp2
        exact bodyPost_ret (v := .agg #[.int .i64 p, .int .i64 2, .int .i64 (at_ - 5)]) (by simp [results, Try.results33, go_sem]) rfl ⟨rfl, (Below.refl _ _).alloc (Nat.le_refl _) _⟩
      · rw [placeV3 p size at_ c0 c1 c2]
        go_enter Try.func33, Try.ntmps33
        go_wp2
        exact bodyPost_ret (v := .agg #[.int .i64 p, .int .i64 3, .int .i64 (at_ - 5 - size)]) (by simp [results, Try.results33, go_sem]) rfl ⟨rfl, (Below.refl _ _).alloc (Nat.le_refl _) _⟩

theorem place_any (p size at_ : Int) (w : World) (h0 : 0 ≤ at_) (h1 : at_ < 7 + size) (hs1 : 1 ≤ size) (hs2 : size ≤ 1024) :
    Calls Try.prog 32 #[.int .i64 p, .int .i64 size, .int .i64 at_] w fun e w' => e = .returned (placeV p size at_) ∧ Below w.heap.size w w' := by
  have i0 : ∀ w, (Instr.index 61 (.agg #[.int .i64 1, .int .i64 4, .int .i64 size, .int .i64 2]) (.int .i64 0)).run Try.prog w = .ok (.int .i64 1) w := fun _ => by kernel_rfl
  have i1 : ∀ w, (Instr.index 61 (.agg #[.int .i64 1, .int .i64 4, .int .i64 size, .int .i64 2]) (.int .i64 1)).run Try.prog w = .ok (.int .i64 4) w := fun _ => by kernel_rfl
  have i2 : ∀ w, (Instr.index 61 (.agg #[.int .i64 1, .int .i64 4, .int .i64 size, .int .i64 2]) (.int .i64 2)).run Try.prog w = .ok (.int .i64 size) w := fun _ => by kernel_rfl
  have i3 : ∀ w, (Instr.index 61 (.agg #[.int .i64 1, .int .i64 4, .int .i64 size, .int .i64 2]) (.int .i64 3)).run Try.prog w = .ok (.int .i64 2) w := fun _ => by kernel_rfl
  by_cases c0 : at_ = 0
  · subst c0
    rw [placeV0]
    go_enter Try.func32, Try.ntmps32
    go_wp2
    go_rounds 1
    exact bodyPost_ret (v := .agg #[.int .i64 p, .int .i64 0, .int .i64 0]) (by simp [results, Try.results32, go_sem]) rfl ⟨rfl, ((Below.refl _ _).alloc (Nat.le_refl _) _).alloc (by simp) _⟩
  · by_cases c1 : at_ < 5
    · rw [placeV1 p size at_ c0 c1]
      have c0' : 1 ≤ at_ := by omega
      clear c0
      go_enter Try.func32, Try.ntmps32
      go_wp2
      go_rounds 2
      exact bodyPost_ret (v := .agg #[.int .i64 p, .int .i64 1, .int .i64 (at_ - 1)]) (by simp [results, Try.results32, go_sem]) rfl ⟨rfl, ((Below.refl _ _).alloc (Nat.le_refl _) _).alloc (by simp) _⟩
    · have c0' : 1 ≤ at_ := by omega
      have c1' : 5 ≤ at_ := by omega
      by_cases c2 : at_ < 5 + size
      · rw [placeV2 p size at_ c0 c1 c2, show at_ - 5 = at_ - 1 - 4 by omega]
        clear c0 c1
        go_enter Try.func32, Try.ntmps32
        go_wp2
        go_rounds 3
        exact bodyPost_ret (v := .agg #[.int .i64 p, .int .i64 2, .int .i64 (at_ - 1 - 4)]) (by simp [results, Try.results32, go_sem]) rfl ⟨rfl, ((Below.refl _ _).alloc (Nat.le_refl _) _).alloc (by simp) _⟩
      · rw [placeV3 p size at_ c0 c1 c2, show at_ - 5 - size = at_ - 1 - 4 - size by omega]
        have c2' : 5 + size ≤ at_ := by omega
        clear c0 c1 c2
        go_enter Try.func32, Try.ntmps32
        go_wp2
        go_rounds 4
        exact bodyPost_ret (v := .agg #[.int .i64 p, .int .i64 3, .int .i64 (at_ - 1 - 4 - size)]) (by simp [results, Try.results32, go_sem]) rfl ⟨rfl, ((Below.refl _ _).alloc (Nat.le_refl _) _).alloc (by simp) _⟩
end Go.Proofs.Yticmopgpfplbnaa
