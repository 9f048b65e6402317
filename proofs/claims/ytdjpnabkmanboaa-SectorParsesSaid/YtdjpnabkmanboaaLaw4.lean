/-
  The walk of the law SectorParses.
-/
import Derived.Test.YtdjpnabkmanboaaParseAny
import Derived.Test.YtdjpnabkmanboaaAwake
namespace Go.Proofs.Ytdjpnabkmanboaa
open Go.RowKit
set_option linter.unusedVariables false

set_option maxHeartbeats 4000000 in
theorem parses_walk (s : ByteArray) (w : World) (hs : s.size ≤ maxLen) :
    Calls Try.prog 6 #[.string s] w fun e w' => e = .returned (.bool true) ∧ Below w.heap.size w w' := by
  have C0 := Lib.hid (fun w => awake_any w)
  by_cases h : s.size ≤ 2400
  · have C1 := Lib.hid (fun w => kind_any s w (by omega))
    have C2 := Lib.hid (fun w => rkind_any s w (by omega))
    have C3 := Lib.hid (fun w => parse_any s w (by omega))
    have C4 := Lib.hid (fun w => rparse_any s w (by omega))
    have C5 := Lib.hid (fun w => check_any s w (by omega))
    have C6 := Lib.hid (fun w => rcheck_any s w (by omega))
    obtain ⟨y, e, hf, _⟩ := parse_form s
    rw [hf] at C3 C4
    obtain ⟨lba, mode, fi, ch, su, co, data⟩ := y
    rw [secV] at C3 C4
    dsimp only at C3 C4
    generalize kindR s = k at *
    obtain ⟨k1, k2⟩ := k
    dsimp only at *
    generalize chkB s = K at *
    have h' : ¬ (2400 : Int) < (s.size : Int) := by omega
    clear h hs hf
    go_enter Try.func6, Try.ntmps6
    go_wp2_with fail
    refine (C0.out _).mono ?_
    rintro r w1 ⟨rfl, hb1⟩
    have h1 := St.call hb1 (St.start w)
    go_wp2_with fail
    refine (C1.out _).mono ?_
    rintro r w2 ⟨rfl, rfl⟩
    go_wp2_with fail
    refine (C2.out _).mono ?_
    rintro r w2 ⟨rfl, rfl⟩
    go_wp2_with fail
    refine (C3.out _).mono ?_
    rintro r w2 ⟨rfl, hb2⟩
    have h2 := St.call hb2 h1
    clear hb1 hb2 h1
    go_wp2_with fail
    refine (C4.out _).mono ?_
    rintro r w3 ⟨rfl, hb3⟩
    have h3 := St.call hb3 (h2.alloc _ _)
    have q3 := (h3.at (i := 0) rfl).cell
    have l3 := h3.lt (i := 0) rfl
    clear hb3 h2
    go_wp2_with fail
    refine (C5.out _).mono ?_
    rintro r w4 ⟨rfl, hb4⟩
    have h4 := St.call hb4 (h3.alloc _ _)
    clear hb4 h3 q3 l3
    go_wp2_with fail
    refine (C6.out _).mono ?_
    rintro r w5 ⟨rfl, hb5⟩
    have h5 := St.call hb5 h4
    clear hb5 h4
    go_wp2_with fail
    go_ret
    exact ⟨rfl, h5.bel⟩
  · have h' : (2400 : Int) < (s.size : Int) := by omega
    clear h
    unfold maxLen at hs
    go_enter Try.func6, Try.ntmps6
    go_wp2_with fail
    refine (C0.out _).mono ?_
    rintro r w1 ⟨rfl, hb1⟩
    go_wp2_with fail
    go_ret
    exact ⟨rfl, hb1⟩
end Go.Proofs.Ytdjpnabkmanboaa
