/-
  The walks of EDC, CRC16, Sum8 of the program, and of ExtendEDC, ExtendCRC16, EDC, CRC16, Sum8 of the reference.
-/
import Derived.Test.YtcbkcdhhigobpaaCrc16
namespace Go.Proofs.Ytcbkcdhhigobpaa
open Go.RowKit
set_option linter.unusedVariables false

def edcS (s : ByteArray) : Nat := edcL 0 s.data.toList
def crcS (s : ByteArray) : Nat := crcL 0 s.data.toList
def sumS (s : ByteArray) : Nat := sumL s.data.toList

theorem edc_any (s : ByteArray) (w : World) (hs : s.size ≤ 140737488351232) : Calls Try.prog 11 #[.string s] w fun e w' => e = .returned (.int .u32 (edcS s : Nat)) ∧ Below w.heap.size w w' := by
  go_enter Try.func11, Try.ntmps11
  go_wp2_with (first | (go_at_call 17; refine (extendedc_any 0 _ _ (by omega) hs).mono ?_; rintro e w1 ⟨rfl, hb1⟩) | fail)
  go_ret
  exact ⟨rfl, hb1⟩
theorem crc_any (s : ByteArray) (w : World) (hs : s.size ≤ 140737488351232) : Calls Try.prog 13 #[.string s] w fun e w' => e = .returned (.int .u16 (crcS s : Nat)) ∧ Below w.heap.size w w' := by
  go_enter Try.func13, Try.ntmps13
  go_wp2_with (first | (go_at_call 19; refine (extendcrc_any 0 _ _ (by omega) hs).mono ?_; rintro e w1 ⟨rfl, hb1⟩) | fail)
  go_ret
  exact ⟨rfl, hb1⟩

set_option maxHeartbeats 400000 in
theorem sum8_any (s : ByteArray) (w : World) (hs : s.size ≤ 140737488351232) : Calls Try.prog 15 #[.string s] w fun e w' => e = .returned (.int .u8 (sumS s : Nat)) ∧ w = w' := by
  have hsz : s.data.toList.length = s.size := by simp
  have HZ := Lib.hid hsz
  clear hsz
  go_enter Try.func15, Try.ntmps15
  go_wp2
  go_loop [3, 7] (fun n i => ∃ k : Nat, k ≤ s.size ∧ i = .int .i64 k ∧ n = .int .u8 (sumL (s.data.toList.take k) : Nat)) (fun _ i => s.size - (intOf i).toNat)
  case atStart => exact ⟨0, by omega, rfl, rfl⟩
  case round =>
    obtain ⟨k, hk, rfl, rfl⟩ := hrel
    by_cases hlt : k < s.size
    · have hN := sumL_lt (s.data.toList.take k)
      have HS := Lib.hid (show sumL (s.data.toList.take (k + 1)) = (sumL (s.data.toList.take k) + s[k].toNat) % 256 by
        rw [List.take_add_one, bytes_get s k hlt, Option.toList_some, sumL_snoc])
      generalize sumL (s.data.toList.take k) = N at *
      go_wp2
      go_round
      case rel => exact ⟨k + 1, by omega, by go_num, by rw [HS.out]; first | rfl | (congr 1; rw [IntKind.wrap_u8]; omega)⟩
      case measure => simp [intOf]; omega
    · obtain rfl : k = s.size := by omega
      rw [List.take_of_length_le (Nat.le_of_eq HZ.out)]
      go_wp2
      go_ret
      exact ⟨rfl, rfl⟩

set_option maxHeartbeats 1000000 in
theorem rextendedc_any (c : Nat) (s : ByteArray) (w : World) (hc : c < 4294967296) (hs : s.size ≤ 140737488351232) :
    Calls Try.prog 18 #[.int .u32 c, .string s] w fun e w' => e = .returned (.int .u32 (edcL c s.data.toList : Nat)) ∧ w = w' := by
  have hsz : s.data.toList.length = s.size := by simp
  have HZ := Lib.hid hsz
  clear hsz
  go_enter Try.func18, Try.ntmps18
  go_wp2
  go_loop [0, 5] (fun n i => ∃ k : Nat, k ≤ s.size ∧ i = .int .i64 k ∧ n = .int .u32 (edcL c (s.data.toList.take k) : Nat)) (fun _ i => s.size - (intOf i).toNat)
  case atStart => exact ⟨0, by omega, rfl, rfl⟩
  case round =>
    obtain ⟨k, hk, rfl, rfl⟩ := hrel
    by_cases hlt : k < s.size
    · have hN := edcL_lt (c := c) (s.data.toList.take k) hc
      have HS := Lib.hid (show edcL c (s.data.toList.take (k + 1)) = eN 8 (edcL c (s.data.toList.take k) ^^^ s[k].toNat) by
        rw [List.take_add_one, bytes_get s k hlt, Option.toList_some, edcL_snoc]; rfl)
      generalize edcL c (s.data.toList.take k) = N at *
      have hb := s[k].toNat_lt
      have hx := u32_xor_nat N s[k].toNat hN (by omega)
      have hX := xor_lt (k := 32) hN (show s[k].toNat < 2 ^ 32 by omega)
      have hltI : (k : Int) < (s.size : Int) := by omega
      generalize N ^^^ s[k].toNat = X at *
      go_wp2
      clear hx
      go_loop [0, 6] (fun n i => ∃ j : Nat, j ≤ 8 ∧ i = .int .i64 j ∧ n = .int .u32 (eN j X : Nat)) (fun _ i => 8 - (intOf i).toNat)
      case atStart => exact ⟨0, by omega, rfl, rfl⟩
      case round =>
        obtain ⟨j, hj, rfl, rfl⟩ := hrel
        have hlt2 := eN_lt hX j
        have HT := Lib.hid (show eN (j + 1) X = e1 (eN j X) from rfl)
        by_cases hj8 : j < 8
        · generalize eN j X = M at *
          have HX := Lib.hid (xorE hlt2)
          by_cases h1 : M % 2 = 1
          · have ha : ((M : Int) % 2 == 1) = true := by simp; omega
            have HE := Lib.hid (show e1 M = M / 2 ^^^ edcP from if_pos h1)
            clear h1
            go_wp2
            go_round
            case rel => exact ⟨j + 1, by omega, by go_num, by rw [HT.out, HE.out, HX.out]⟩
            case measure => simp [intOf]; omega
          · have ha : ((M : Int) % 2 == 1) = false := by simp; omega
            have HE := Lib.hid (show e1 M = M / 2 from if_neg h1)
            clear h1
            go_wp2
            go_round
            case rel => exact ⟨j + 1, by omega, by go_num, by rw [HT.out, HE.out]; rfl⟩
            case measure => simp [intOf]; omega
        · obtain rfl : j = 8 := by omega
          go_wp2
          go_round
          case rel => exact ⟨k + 1, by omega, by go_num, by rw [HS.out]⟩
          case measure => simp [intOf]; omega
    · obtain rfl : k = s.size := by omega
      rw [List.take_of_length_le (Nat.le_of_eq HZ.out)]
      go_wp2
      go_ret
      exact ⟨rfl, rfl⟩
theorem xorR {N : Nat} (h : N < 65536) : bits .xor .u16 ((N : Int) % 32768 * 2) 4129 = ((N % 32768 * 2 ^^^ crcP : Nat) : Int) := by
  have := u16_xor_nat (N % 32768 * 2) 4129 (by omega) (by omega)
  have e : ((N : Int) % 32768 * 2) = ((N % 32768 * 2 : Nat) : Int) := by omega
  rw [e]
  exact this

set_option maxHeartbeats 1000000 in
theorem rextendcrc_any (c : Nat) (s : ByteArray) (w : World) (hc : c < 65536) (hs : s.size ≤ 140737488351232) :
    Calls Try.prog 20 #[.int .u16 c, .string s] w fun e w' => e = .returned (.int .u16 (crcL c s.data.toList : Nat)) ∧ w = w' := by
  have hsz : s.data.toList.length = s.size := by simp
  have HZ := Lib.hid hsz
  clear hsz
  go_enter Try.func20, Try.ntmps20
  go_wp2
  go_loop [0, 5] (fun n i => ∃ k : Nat, k ≤ s.size ∧ i = .int .i64 k ∧ n = .int .u16 (crcL c (s.data.toList.take k) : Nat)) (fun _ i => s.size - (intOf i).toNat)
  case atStart => exact ⟨0, by omega, rfl, rfl⟩
  case round =>
    obtain ⟨k, hk, rfl, rfl⟩ := hrel
    by_cases hlt : k < s.size
    · have hN := crcL_lt (c := c) (s.data.toList.take k) hc
      have HS := Lib.hid (show crcL c (s.data.toList.take (k + 1)) = cN 8 (crcL c (s.data.toList.take k) ^^^ s[k].toNat * 256) by
        rw [List.take_add_one, bytes_get s k hlt, Option.toList_some, crcL_snoc]; rfl)
      generalize crcL c (s.data.toList.take k) = N at *
      have hb := s[k].toNat_lt
      have hx : bits .xor .u16 (N : Int) ((s[k].toNat : Int) * 256) = ((N ^^^ s[k].toNat * 256 : Nat) : Int) := by
        have := u16_xor_nat N (s[k].toNat * 256) hN (by omega)
        rw [Int.natCast_mul] at this
        exact this
      have hX := xor_lt (k := 16) hN (show s[k].toNat * 256 < 2 ^ 16 by omega)
      have hltI : (k : Int) < (s.size : Int) := by omega
      generalize N ^^^ s[k].toNat * 256 = X at *
      go_wp2
      clear hx
      go_loop [0, 6] (fun n i => ∃ j : Nat, j ≤ 8 ∧ i = .int .i64 j ∧ n = .int .u16 (cN j X : Nat)) (fun _ i => 8 - (intOf i).toNat)
      case atStart => exact ⟨0, by omega, rfl, rfl⟩
      case round =>
        obtain ⟨j, hj, rfl, rfl⟩ := hrel
        have hlt2 := cN_lt hX j
        have HT := Lib.hid (show cN (j + 1) X = c1 (cN j X) from rfl)
        by_cases hj8 : j < 8
        · generalize cN j X = M at *
          have HX := Lib.hid (xorR hlt2)
          by_cases h1 : M / 32768 = 1
          · have ha : ((M : Int) / 32768 == 1) = true := by simp; omega
            have HE := Lib.hid (show c1 M = M % 32768 * 2 ^^^ crcP from if_pos h1)
            clear h1
            go_wp2
            go_round
            case rel => exact ⟨j + 1, by omega, by go_num, by rw [HT.out, HE.out, ← HX.out]⟩
            case measure => simp [intOf]; omega
          · have ha : ((M : Int) / 32768 == 1) = false := by simp; omega
            have HE := Lib.hid (show c1 M = M % 32768 * 2 from if_neg h1)
            clear h1
            go_wp2
            go_round
            case rel => exact ⟨j + 1, by omega, by go_num, by rw [HT.out, HE.out]; rfl⟩
            case measure => simp [intOf]; omega
        · obtain rfl : j = 8 := by omega
          go_wp2
          go_round
          case rel => exact ⟨k + 1, by omega, by go_num, by rw [HS.out]⟩
          case measure => simp [intOf]; omega
    · obtain rfl : k = s.size := by omega
      rw [List.take_of_length_le (Nat.le_of_eq HZ.out)]
      go_wp2
      go_ret
      exact ⟨rfl, rfl⟩

set_option maxHeartbeats 400000 in
theorem rsum8_any (s : ByteArray) (w : World) (hs : s.size ≤ 140737488351232) : Calls Try.prog 16 #[.string s] w fun e w' => e = .returned (.int .u8 (sumS s : Nat)) ∧ w = w' := by
  have hsz : s.data.toList.length = s.size := by simp
  have HZ := Lib.hid hsz
  clear hsz
  go_enter Try.func16, Try.ntmps16
  go_wp2
  go_loop [3, 4] (fun n i => ∃ k : Nat, k ≤ s.size ∧ i = .int .i64 k ∧ n = .int .i64 (sumL (s.data.toList.take k) : Nat)) (fun _ i => s.size - (intOf i).toNat)
  case atStart => exact ⟨0, by omega, rfl, rfl⟩
  case round =>
    obtain ⟨k, hk, rfl, rfl⟩ := hrel
    have hN := sumL_lt (s.data.toList.take k)
    by_cases hlt : k < s.size
    · have HS := Lib.hid (show sumL (s.data.toList.take (k + 1)) = (sumL (s.data.toList.take k) + s[k].toNat) % 256 by
        rw [List.take_add_one, bytes_get s k hlt, Option.toList_some, sumL_snoc])
      generalize sumL (s.data.toList.take k) = N at *
      have hb := s[k].toNat_lt
      go_wp2
      go_round
      case rel => exact ⟨k + 1, by omega, by go_num, by rw [HS.out]; rfl⟩
      case measure => simp [intOf]; omega
    · obtain rfl : k = s.size := by omega
      rw [List.take_of_length_le (Nat.le_of_eq HZ.out)] at hN ⊢
      go_wp2
      go_ret
      exact ⟨rfl, rfl⟩

theorem redc_any (s : ByteArray) (w : World) (hs : s.size ≤ 140737488351232) : Calls Try.prog 12 #[.string s] w fun e w' => e = .returned (.int .u32 (edcS s : Nat)) ∧ w = w' := by
  go_enter Try.func12, Try.ntmps12
  go_wp2_with (first | (go_at_call 18; refine (rextendedc_any 0 _ _ (by omega) hs).mono ?_; rintro e w1 ⟨rfl, rfl⟩) | fail)
  go_ret
  exact ⟨rfl, rfl⟩
theorem rcrc_any (s : ByteArray) (w : World) (hs : s.size ≤ 140737488351232) : Calls Try.prog 14 #[.string s] w fun e w' => e = .returned (.int .u16 (crcS s : Nat)) ∧ w = w' := by
  go_enter Try.func14, Try.ntmps14
  go_wp2_with (first | (go_at_call 20; refine (rextendcrc_any 0 _ _ (by omega) hs).mono ?_; rintro e w1 ⟨rfl, rfl⟩) | fail)
  go_ret
  exact ⟨rfl, rfl⟩
end Go.Proofs.Ytcbkcdhhigobpaa
