/-
  The walk of the law EndianReads.
-/
import Derived.Test.YtlllcnbaebfbiaaRefBoth
namespace Go.Proofs.Ytlllcnbaebfbiaa
open Go.RowKit
set_option linter.unusedVariables false

set_option maxHeartbeats 400000 in
theorem reads_walk (s : ByteArray) (a size : Int) (w : World) (w0 : s.size ≤ maxLen) (_ : (Lit.int .i64 a).wf = true) (_ : (Lit.int .i64 size).wf = true) :
    Calls Try.prog 8 #[.string s, .int .i64 a, .int .i64 size] w fun e w' => e = .returned (.bool true) ∧ Below w.heap.size w w' := by
  have hs : s.size ≤ 9223372036854775807 := by unfold maxLen at w0; omega
  clear w0
  by_cases h : (40 : Int) < (s.size : Int)
  · go_enter Try.func8, Try.ntmps8
    go_wp2_with (first
      | (go_at_call 10; refine (awake_any _).mono ?_; rintro e w1 ⟨rfl, hb1⟩)
      | fail)
    go_ret
    exact ⟨rfl, hb1⟩
  · have hz : s.size ≤ 140737488351232 := by omega
    go_enter Try.func8, Try.ntmps8
    go_wp2_with (first
      | (go_at_call 10; refine (awake_any _).mono ?_; rintro e w1 ⟨rfl, hb1⟩)
      | (go_at_call 23; refine (readlittle_any _ _ _ _ hz).mono ?_; rintro e w2 ⟨rfl, hb2⟩)
      | (go_at_call 24; refine (rreadlittle_any _ _ _ _ hz).mono ?_; rintro e w3 ⟨rfl, hb3⟩)
      | (go_at_call 22; refine (readbig_any _ _ _ _ hz).mono ?_; rintro e w4 ⟨rfl, hb4⟩)
      | (go_at_call 25; refine (rreadbig_any _ _ _ _ hz).mono ?_; rintro e w5 ⟨rfl, hb5⟩)
      | (go_at_call 26; refine (readboth_any _ _ _ _ hz).mono ?_; rintro e w6 ⟨rfl, hb6⟩)
      | (go_at_call 27; refine (rreadboth_any _ _ _ _ hz).mono ?_; rintro e w7 ⟨rfl, hb7⟩)
      | fail)
    go_ret
    have b2 := hb1.trans (hb2.mono hb1.size)
    have b3 := b2.trans (hb3.mono b2.size)
    have b4 := b3.trans (hb4.mono b3.size)
    have b5 := b4.trans (hb5.mono b4.size)
    have b6 := b5.trans (hb6.mono b5.size)
    exact ⟨rfl, b6.trans (hb7.mono b6.size)⟩
end Go.Proofs.Ytlllcnbaebfbiaa
