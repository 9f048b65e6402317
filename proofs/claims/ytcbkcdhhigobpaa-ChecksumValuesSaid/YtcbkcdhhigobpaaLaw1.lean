/-
  The walks of the laws ChecksumValues and ChecksumBytes.
-/
import Derived.Test.YtcbkcdhhigobpaaBytes
namespace Go.Proofs.Ytcbkcdhhigobpaa
open Go.RowKit
set_option linter.unusedVariables false

set_option maxHeartbeats 1000000 in
theorem values_walk (s : ByteArray) (w : World) (w0 : s.size ≤ maxLen) :
    Calls Try.prog 3 #[.string s] w fun e w' => e = .returned (.bool true) ∧ Below w.heap.size w w' := by
  unfold maxLen at w0
  have hs : s.size ≤ 9223372036854775807 := by omega
  clear w0
  by_cases h : (300 : Int) < (s.size : Int)
  · go_enter Try.func3, Try.ntmps3
    go_wp2_with (first | (go_at_call 10; refine (awake_any _).mono ?_; rintro e w1 ⟨rfl, hb1⟩) | fail)
    go_ret
    exact ⟨rfl, hb1⟩
  · have hz : s.size ≤ 140737488351232 := by omega
    go_enter Try.func3, Try.ntmps3
    go_wp2_with (first
      | (go_at_call 10; refine (awake_any _).mono ?_; rintro e w1 ⟨rfl, hb1⟩)
      | (go_at_call 11; refine (edc_any _ _ hz).mono ?_; rintro e w2 ⟨rfl, hb2⟩)
      | (go_at_call 12; refine (redc_any _ _ hz).mono ?_; rintro e w' ⟨rfl, rfl⟩)
      | (go_at_call 13; refine (crc_any _ _ hz).mono ?_; rintro e w3 ⟨rfl, hb3⟩)
      | (go_at_call 14; refine (rcrc_any _ _ hz).mono ?_; rintro e w' ⟨rfl, rfl⟩)
      | (go_at_call 15; refine (sum8_any _ _ hz).mono ?_; rintro e w' ⟨rfl, rfl⟩)
      | (go_at_call 16; refine (rsum8_any _ _ hz).mono ?_; rintro e w' ⟨rfl, rfl⟩)
      | fail)
    go_ret
    have b2 := hb1.trans (hb2.mono hb1.size)
    exact ⟨rfl, b2.trans (hb3.mono b2.size)⟩

set_option maxHeartbeats 1000000 in
theorem bytes_walk (a b : Int) (w : World) (w0 : (Lit.int .u32 a).wf = true) (w1 : (Lit.int .u16 b).wf = true) :
    Calls Try.prog 7 #[.int .u32 a, .int .u16 b] w fun e w' => e = .returned (.bool true) ∧ Below w.heap.size w w' := by
  obtain ⟨a0, a1⟩ := Go.Proofs.Ytcbkcdhhigobpaa.wf_u32 w0
  obtain ⟨b0, b1⟩ := Go.Proofs.Ytcbkcdhhigobpaa.wf_u16 w1
  obtain ⟨x, rfl⟩ := Int.eq_ofNat_of_zero_le a0
  obtain ⟨y, rfl⟩ := Int.eq_ofNat_of_zero_le b0
  have hx : x < 4294967296 := by omega
  have hy : y < 65536 := by omega
  clear w0 w1 a0 a1 b0 b1
  go_enter Try.func7, Try.ntmps7
  go_wp2_with (first
    | (go_at_call 10; refine (awake_any _).mono ?_; rintro e w1 ⟨rfl, hb1⟩)
    | (go_at_call 22; refine (edcbytes_any _ _ hx).mono ?_; rintro e w2 ⟨rfl, hb2⟩)
    | (go_at_call 23; refine (redcbytes_any _ _ hx).mono ?_; rintro e w3 ⟨rfl, hb3⟩)
    | (go_at_call 24; refine (crcbytes_any _ _ hy).mono ?_; rintro e w4 ⟨rfl, hb4⟩)
    | (go_at_call 25; refine (rcrcbytes_any _ _ hy).mono ?_; rintro e w5 ⟨rfl, hb5⟩)
    | fail)
  go_ret
  have b2 := hb1.trans (hb2.mono hb1.size)
  have b3 := b2.trans (hb3.mono b2.size)
  have b4 := b3.trans (hb4.mono b3.size)
  exact ⟨rfl, b4.trans (hb5.mono b4.size)⟩
end Go.Proofs.Ytcbkcdhhigobpaa
