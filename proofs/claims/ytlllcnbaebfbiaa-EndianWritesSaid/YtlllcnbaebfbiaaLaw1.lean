/-
  The walk of the law EndianWrites.
-/
import Derived.Test.YtlllcnbaebfbiaaD
namespace Go.Proofs.Ytlllcnbaebfbiaa
open Go.RowKit

set_option maxHeartbeats 400000 in
theorem writes_walk (n size : Int) (w : World) (w0 : (Lit.int .i64 n).wf = true) (_ : (Lit.int .i64 size).wf = true) :
    Calls Try.prog 3 #[.int .i64 n, .int .i64 size] w fun e w' => e = .returned (.bool true) ∧ Below w.heap.size w w' := by
  have hn := (wf_i64 w0).2
  clear w0
  go_enter Try.func3, Try.ntmps3
  go_wp2_with (first
    | (go_at_call 10; refine (awake_any _).mono ?_; rintro e w1 ⟨rfl, hb1⟩)
    | (go_at_call 11; refine (little_any _ _ _ hn).mono ?_; rintro e w2 ⟨rfl, hb2⟩)
    | (go_at_call 12; refine (rlittle_any _ _ _ hn).mono ?_; rintro e w3 ⟨rfl, hb3⟩)
    | (go_at_call 13; refine (big_any _ _ _ hn).mono ?_; rintro e w4 ⟨rfl, hb4⟩)
    | (go_at_call 14; refine (rbig_any _ _ _ hn).mono ?_; rintro e w5 ⟨rfl, hb5⟩)
    | (go_at_call 15; refine (both_any _ _ _ hn).mono ?_; rintro e w6 ⟨rfl, hb6⟩)
    | (go_at_call 16; refine (rboth_any _ _ _ hn).mono ?_; rintro e w7 ⟨rfl, hb7⟩)
    | fail)
  go_ret
  have b2 := hb1.trans (hb2.mono hb1.size)
  have b3 := b2.trans (hb3.mono b2.size)
  have b4 := b3.trans (hb4.mono b3.size)
  have b5 := b4.trans (hb5.mono b4.size)
  have b6 := b5.trans (hb6.mono b5.size)
  exact ⟨rfl, b6.trans (hb7.mono b6.size)⟩
end Go.Proofs.Ytlllcnbaebfbiaa
