/-
  The walk of the law ChecksumParity.
-/
import Derived.Test.YtcbkcdhhigobpaaPop
namespace Go.Proofs.Ytcbkcdhhigobpaa
open Go.RowKit
set_option linter.unusedVariables false

theorem onesL_take (s : ByteArray) (k : Nat) (h : k < s.size) : onesL (s.data.toList.take (k + 1)) = onesL (s.data.toList.take k) + ones 8 s[k].toNat := by
  rw [List.take_add_one, bytes_get s k h, Option.toList_some, onesL_snoc]

set_option maxHeartbeats 400000 in
theorem parity_ok (s : ByteArray) (w : World) (hs : s.size ≤ 300) :
    Calls Try.prog 8 #[.string s] w fun e w' => e = .returned (.bool true) ∧ Below w.heap.size w w' := by
  have h1 : ¬ (300 : Int) < (s.size : Int) := by omega
  go_enter Try.func8, Try.ntmps8
  go_wp2_with fail
  refine (awake_any _).mono ?_
  rintro e w1 ⟨rfl, hb1⟩
  go_wp2_with fail
  go_loop [3, 12] (fun n i => ∃ k : Nat, k ≤ s.size ∧ i = .int .i64 k ∧ n = .int .i64 (onesL (s.data.toList.take k) : Nat)) (fun _ i => s.size - (intOf i).toNat)
  case atStart => exact ⟨0, by omega, rfl, rfl⟩
  case round =>
    obtain ⟨k, hk, rfl, rfl⟩ := hrel
    by_cases hlt : k < s.size
    · have HS := Lib.hid (onesL_take s k hlt)
      have hlt' : (k : Int) < (s.size : Int) := by omega
      have hle := onesL_le (s.data.toList.take k)
      rw [List.length_take] at hle
      have hle1 : onesL (s.data.toList.take k) ≤ 2400 := by omega
      have hle2 := ones8_le s[k].toNat
      clear hle
      go_wp2_with fail
      refine (pop8_any s[k] _).mono ?_
      rintro e w' ⟨rfl, rfl⟩
      go_wp2_with fail
      go_round
      case rel => exact ⟨k + 1, by omega, by go_num, by rw [HS.out]; go_num⟩
      case measure => simp [intOf]; omega
    · obtain rfl : k = s.size := by omega
      have hle := onesL_le s.data.toList
      have hl : s.data.toList.length = s.size := by simp
      have hle1 : onesL s.data.toList ≤ 2400 := by omega
      rw [List.take_of_length_le (by omega)]
      have hge : ¬ (s.size : Int) < (s.size : Int) := by omega
      have p1 := edcL_ones s.data.toList (c := 0) (by omega)
      have p2 := crcL_ones s.data.toList (c := 0) (by omega)
      rw [ones_zero, Nat.zero_add] at p1 p2
      have q1 : ones 32 (edcS s) % 2 = onesL s.data.toList % 2 := p1
      have q2 : ones 16 (crcS s) % 2 = onesL s.data.toList % 2 := p2
      have hones : ∀ k x, ones k x ≤ k := by
        intro k
        induction k with
        | zero => intro x; exact Nat.le_refl 0
        | succ k ih => intro x; have := ih (x / 2); rw [ones]; omega
      have o1 := hones 32 (edcS s)
      have o2 := hones 16 (crcS s)
      have C1 := Lib.hid (fun w => pop32_any (edcS s) w (edcL_lt _ (by omega)))
      have C2 := Lib.hid (fun w => pop16_any (crcS s) w (crcL_lt _ (by omega)))
      generalize ones 32 (edcS s) = A at *
      generalize ones 16 (crcS s) = B at *
      generalize onesL s.data.toList = C at *
      have r1 : (((C : Int) + (A : Int)) % 2 == 0) = true := by simp; omega
      have r2 : (((C : Int) + (B : Int)) % 2 == 0) = true := by simp; omega
      have R1 := Lib.hid r1
      have R2 := Lib.hid r2
      clear p1 p2 q1 q2 hones hl hle r1 r2
      go_wp2_with fail
      refine (edc_any s _ (by omega)).mono ?_
      rintro e w2 ⟨rfl, hb2⟩
      go_wp2_with fail
      refine (C1.out _).mono ?_
      rintro e w2' ⟨rfl, m1, rfl⟩
      have r1 := R1.out
      go_wp2_with fail
      refine (crc_any s _ (by omega)).mono ?_
      rintro e w3 ⟨rfl, hb3⟩
      go_wp2_with fail
      refine (C2.out _).mono ?_
      rintro e w3' ⟨rfl, m2, rfl⟩
      have r2 := R2.out
      go_wp2_with fail
      go_ret
      have b2 := hb1.trans (hb2.mono hb1.size)
      have b3 := below_drewN b2 m1
      exact ⟨rfl, below_drewN (b3.trans (hb3.mono b3.size)) m2⟩

theorem parity_walk (s : ByteArray) (w : World) (w0 : s.size ≤ maxLen) :
    Calls Try.prog 8 #[.string s] w fun e w' => e = .returned (.bool true) ∧ Below w.heap.size w w' := by
  unfold maxLen at w0
  by_cases h : s.size ≤ 300
  · exact parity_ok s w h
  · have h1 : (300 : Int) < (s.size : Int) := by omega
    go_enter Try.func8, Try.ntmps8
    go_wp2_with (first | (go_at_call 10; refine (awake_any _).mono ?_; rintro e w1 ⟨rfl, hb1⟩) | fail)
    go_ret
    exact ⟨rfl, hb1⟩
end Go.Proofs.Ytcbkcdhhigobpaa
