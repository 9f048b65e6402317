/-
  Parse of the program and of the reference, in one word.
-/
import Derived.Test.YtdjpnabkmanboaaRParse2
namespace Go.Proofs.Ytdjpnabkmanboaa
open Go.RowKit
set_option linter.unusedVariables false

theorem kind_split {s : ByteArray} (h : (kindR s).2 = 0) : s.size = 2352 ∧ ∃ m, kindR s = (m, 0) ∧ modeOk m = true := by
  obtain ⟨hz, hm⟩ := kindR_ok h
  exact ⟨hz, (kindR s).1, by rw [← h], hm⟩
theorem parse_any (s : ByteArray) (w : World) (hs : s.size ≤ 140737488351232) :
    Calls Try.prog 21 #[.string s] w fun e w' => e = .returned (parseV s) ∧ Below w.heap.size w w' := by
  by_cases h : (kindR s).2 = 0
  · obtain ⟨hz, m, hk, hm⟩ := kind_split h
    rcases modeOk_iff.1 hm with e | e | e
    · subst e; exact parse_one s w hz hk
    · subst e; exact parse_two s 1 2048 2072 w hz hk hm (by omega) rfl rfl (by omega) (by omega)
    · subst e; exact parse_two s 2 2324 2348 w hz hk hm (by omega) rfl rfl (by omega) (by omega)
  · exact parse_kind s w hs h
theorem rparse_any (s : ByteArray) (w : World) (hs : s.size ≤ 140737488351232) :
    Calls Try.prog 22 #[.string s] w fun e w' => e = .returned (parseV s) ∧ Below w.heap.size w w' := by
  by_cases h : (kindR s).2 = 0
  · obtain ⟨hz, m, hk, hm⟩ := kind_split h
    rcases modeOk_iff.1 hm with e | e | e
    · subst e; exact rparse_one s w hz hk
    · subst e; exact rparse_two s 1 2048 2072 w hz hk hm (by omega) rfl rfl (by omega) (by omega)
    · subst e; exact rparse_two s 2 2324 2348 w hz hk hm (by omega) rfl rfl (by omega) (by omega)
  · exact rparse_kind s w hs h
/-- The form of what Parse answers. -/
theorem parse_form (s : ByteArray) : ∃ (y : Sec) (e : Int), parseV s = .tuple #[secV y, .int .i64 e] ∧
    ((e = 0 ∧ ∃ m, kindR s = (m, 0) ∧ s.size = 2352 ∧ goodB s m = true ∧ chkB s = true ∧ y = secOf s m) ∨ (e ≠ 0 ∧ y = ⟨0, 0, 0, 0, 0, 0, ⟨#[]⟩⟩)) := by
  unfold parseV
  by_cases h : (kindR s).2 = 0
  · obtain ⟨hz, m, hk, hm⟩ := kind_split h
    rw [if_neg (by simpa using h), hk]
    by_cases hg : goodB s m = true
    · rw [if_pos hg]
      by_cases hc : chkB s = true
      · rw [if_pos hc]
        exact ⟨secOf s m, 0, rfl, .inl ⟨rfl, m, rfl, hz, hg, hc, rfl⟩⟩
      · rw [if_neg hc]
        exact ⟨⟨0, 0, 0, 0, 0, 0, ⟨#[]⟩⟩, 9, rfl, .inr ⟨by omega, rfl⟩⟩
    · rw [if_neg hg]
      exact ⟨⟨0, 0, 0, 0, 0, 0, ⟨#[]⟩⟩, 10, rfl, .inr ⟨by omega, rfl⟩⟩
  · rw [if_pos h]
    exact ⟨⟨0, 0, 0, 0, 0, 0, ⟨#[]⟩⟩, (kindR s).2, rfl, .inr ⟨h, rfl⟩⟩
end Go.Proofs.Ytdjpnabkmanboaa
