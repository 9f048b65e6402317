/-
  The walk of the law SectorModes.
-/
import Derived.Test.YtdjpnabkmanboaaAwake
namespace Go.Proofs.Ytdjpnabkmanboaa
open Go.RowKit
set_option linter.unusedVariables false

set_option maxHeartbeats 4000000 in
theorem modes_walk (m : Int) (w : World) (w0 : (Lit.int IntKind.i64 m).wf = true) :
    Calls Try.prog 5 #[.int .i64 m] w fun e w' => e = .returned (.bool true) ∧ Below w.heap.size w w' := by
  have C0 := Lib.hid (fun w => awake_any w)
  have C1 := Lib.hid (fun w => capacity_any m w)
  have C2 := Lib.hid (fun w => rcapacity_any m w)
  have C3 := Lib.hid (fun w => span_any m w)
  have C4 := Lib.hid (fun w => rspan_any m w)
  obtain ⟨c, e, a, n, hc, hs, ht⟩ : ∃ c e a n : Int, capV m = .tuple #[.int .i64 c, .int .i64 e] ∧ spanV m = .tuple #[.int .i64 a, .int .i64 n, .int .i64 e] ∧ ((e = 0 ∧ 0 ≤ a ∧ c ≤ n ∧ 0 ≤ n ∧ a + n + 4 ≤ 2352) ∨ e = 1) := by
    by_cases h : modeOk m = true
    · refine ⟨_, _, _, _, if_pos h, if_pos h, .inl ?_⟩
      rcases modeOk_iff.1 h with rfl | rfl | rfl
      · decide
      · decide
      · decide
    · exact ⟨_, _, _, _, if_neg h, if_neg h, .inr rfl⟩
  rw [hc] at C1 C2
  rw [hs] at C3 C4
  clear hc hs
  rcases ht with ⟨rfl, h1, h2, h3, h4⟩ | rfl
  · have e1 : IntKind.i64.wrap (a + n) = a + n := IntWalk.i64_in _ (by omega)
    have e2 : IntKind.i64.wrap (a + n + 4) = a + n + 4 := IntWalk.i64_in _ (by omega)
    have e3 : c ≤ n := h2
    have e4 : 0 ≤ a := h1
    have e5 : a + n + 4 ≤ 2352 := h4
    clear h1 h2 h3 h4
    go_enter Try.func5, Try.ntmps5
    go_wp2_with fail
    refine (C0.out _).mono ?_
    rintro e w1 ⟨rfl, hb1⟩
    go_wp2_with fail
    refine (C1.out _).mono ?_
    rintro e w2 ⟨rfl, hb2⟩
    go_wp2_with fail
    refine (C2.out _).mono ?_
    rintro e w3 ⟨rfl, rfl⟩
    go_wp2_with fail
    refine (C3.out _).mono ?_
    rintro e w4 ⟨rfl, hb4⟩
    go_wp2_with fail
    refine (C4.out _).mono ?_
    rintro e w5 ⟨rfl, rfl⟩
    go_wp2_with fail
    go_ret
    have b2 := belowC hb2 hb1
    exact ⟨rfl, belowC hb4 b2⟩
  · go_enter Try.func5, Try.ntmps5
    go_wp2_with fail
    refine (C0.out _).mono ?_
    rintro e w1 ⟨rfl, hb1⟩
    go_wp2_with fail
    refine (C1.out _).mono ?_
    rintro e w2 ⟨rfl, hb2⟩
    go_wp2_with fail
    refine (C2.out _).mono ?_
    rintro e w3 ⟨rfl, rfl⟩
    go_wp2_with fail
    refine (C3.out _).mono ?_
    rintro e w4 ⟨rfl, hb4⟩
    go_wp2_with fail
    refine (C4.out _).mono ?_
    rintro e w5 ⟨rfl, rfl⟩
    go_wp2_with fail
    go_ret
    have b2 := belowC hb2 hb1
    exact ⟨rfl, belowC hb4 b2⟩
end Go.Proofs.Ytdjpnabkmanboaa
