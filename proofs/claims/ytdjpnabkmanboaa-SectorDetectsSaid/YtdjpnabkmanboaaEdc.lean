/-
  The EDC of a string and its bytes, of the program and of the reference (out of chapter 2's texts).
-/
import Derived.Test.YtdjpnabkmanboaaCrc
namespace Go.Proofs.Ytdjpnabkmanboaa
open Go.RowKit
set_option linter.unusedVariables false

def edcS (s : ByteArray) : Nat := edcL 0 s.data.toList
theorem edc_any (s : ByteArray) (w : World) (hs : s.size ≤ 140737488351232) : Calls Try.prog 56 #[.string s] w fun e w' => e = .returned (.int .u32 (edcS s : Nat)) ∧ Below w.heap.size w w' := by
  go_enter Try.func56, Try.ntmps56
  go_wp2_with (first | (go_at_call 73; refine (extendedc_any 0 _ _ (by omega) hs).mono ?_; rintro e w1 ⟨rfl, hb1⟩) | fail)
  go_ret
  exact ⟨rfl, hb1⟩

set_option maxHeartbeats 1000000 in
theorem rextendedc_any (c : Nat) (s : ByteArray) (w : World) (hc : c < 4294967296) (hs : s.size ≤ 140737488351232) :
    Calls Try.prog 74 #[.int .u32 c, .string s] w fun e w' => e = .returned (.int .u32 (edcL c s.data.toList : Nat)) ∧ w = w' := by
  have hsz : s.data.toList.length = s.size := by simp
  have HZ := Lib.hid hsz
  clear hsz
  go_enter Try.func74, Try.ntmps74
  go_wp2
  go_loop [0, 5] (fun n i => ∃ k : Nat, k ≤ s.size ∧ i = .int .i64 k ∧ n = .int .u32 (edcL c (s.data.toList.take k) : Nat)) (fun _ i => s.size - (intOf i).toNat)
  case atStart => exact ⟨0, by omega, rfl, rfl⟩
  case round =>
    obtain ⟨k, hk, rfl, rfl⟩ := hrel
    by_cases hlt : k < s.size
    · have hN := edcL_lt (c := c) (s.data.toList.take k) hc
      have HS := Lib.hid (show edcL c (s.data.toList.take (k + 1)) = eN 8 (edcL c (s.data.toList.take k) ^^^ s[k].toNat) by
        rw [List.take_add_one, bytes_get s k hlt, Option.toList_some, edcL_snoc]; rfl)
      generalize edcL c (s.data.toList.take k) = N at *
      have hb := s[k].toNat_lt
      have hx := u32_xor_nat N s[k].toNat hN (by omega)
      have hX := xor_lt (k := 32) hN (show s[k].toNat < 2 ^ 32 by omega)
      have hltI : (k : Int) < (s.size : Int) := by omega
      generalize N ^^^ s[k].toNat = X at *
      go_wp2
      clear hx
      go_loop [0, 6] (fun n i => ∃ j : Nat, j ≤ 8 ∧ i = .int .i64 j ∧ n = .int .u32 (eN j X : Nat)) (fun _ i => 8 - (intOf i).toNat)
      case atStart => exact ⟨0, by omega, rfl, rfl⟩
      case round =>
        obtain ⟨j, hj, rfl, rfl⟩ := hrel
        have hlt2 := eN_lt hX j
        have HT := Lib.hid (show eN (j + 1) X = e1 (eN j X) from rfl)
        by_cases hj8 : j < 8
        · generalize eN j X = M at *
          have HX := Lib.hid (xorE hlt2)
          by_cases h1 : M % 2 = 1
          · have ha : ((M : Int) % 2 == 1) = true := by simp; omega
            have HE := Lib.hid (show e1 M = M / 2 ^^^ edcP from if_pos h1)
            clear h1
            go_wp2
            go_round
            case rel => exact ⟨j + 1, by omega, by go_num, by rw [HT.out, HE.out, HX.out]⟩
            case measure => simp [intOf]; omega
          · have ha : ((M : Int) % 2 == 1) = false := by simp; omega
            have HE := Lib.hid (show e1 M = M / 2 from if_neg h1)
            clear h1
            go_wp2
            go_round
            case rel => exact ⟨j + 1, by omega, by go_num, by rw [HT.out, HE.out]; rfl⟩
            case measure => simp [intOf]; omega
        · obtain rfl : j = 8 := by omega
          go_wp2
          go_round
          case rel => exact ⟨k + 1, by omega, by go_num, by rw [HS.out]⟩
          case measure => simp [intOf]; omega
    · obtain rfl : k = s.size := by omega
      rw [List.take_of_length_le (Nat.le_of_eq HZ.out)]
      go_wp2
      go_ret
      exact ⟨rfl, rfl⟩
theorem redc_any (s : ByteArray) (w : World) (hs : s.size ≤ 140737488351232) : Calls Try.prog 60 #[.string s] w fun e w' => e = .returned (.int .u32 (edcS s : Nat)) ∧ w = w' := by
  go_enter Try.func60, Try.ntmps60
  go_wp2_with (first | (go_at_call 74; refine (rextendedc_any 0 _ _ (by omega) hs).mono ?_; rintro e w1 ⟨rfl, rfl⟩) | fail)
  go_ret
  exact ⟨rfl, rfl⟩

/-- A slice literal of bytes, made into a string. -/
theorem lit_string (w : World) (bs : List UInt8) (cells : Array Value) (n : Nat) (hn : bs.length = n) (hc : cells.toList = bs.map byteV) (hm : n ≤ maxLen) :
    (convert 42 9 (.slice (some ⟨w.heap.size, 0, none⟩) n n)).run Try.prog (w.alloc (.cells cells 5)) = .ok (.string ⟨bs.toArray⟩) (w.alloc (.cells cells 5)) := by
  have hown : (w.alloc (.cells cells 5)).ownsRow w.heap.size 5 1 (.slice (some ⟨w.heap.size, 0, none⟩) n n) n (bs.map byteV) := by
    have hs : cells.size = n := by rw [← hn, ← Array.length_toList, hc, List.length_map]
    refine ⟨by rw [List.length_map, hn, Nat.mul_one], .inr ⟨w.heap.size, n, cells, rfl, Nat.le_refl _, heap_alloc_new w _, Nat.le_refl _, hm, by rw [hs, Nat.mul_one], ?_⟩⟩
    rw [Nat.mul_one, ← hs, ← Array.length_toList, List.take_length, hc]
  exact own_string _ _ _ _ Try.underlying42 Try.underlying5 Try.underlying9 hown

def edcBs (c : Nat) : List UInt8 := [UInt8.ofNat c, UInt8.ofNat (c / 256), UInt8.ofNat (c / 65536), UInt8.ofNat (c / 16777216)]
theorem bv (n : Nat) (m : Int) (h : m = ((n % 256 : Nat) : Int)) : Value.int .u8 m = byteV (UInt8.ofNat n) := by
  rw [h]
  rfl

theorem edcBs_cells (c : Nat) (hc : c < 4294967296) : (#[Value.int .u8 ((c : Int) % 256), Value.int .u8 ((c : Int) / 256 % 256), Value.int .u8 ((c : Int) / 65536 % 256), Value.int .u8 ((c : Int) / 16777216)] : Array Value).toList = (edcBs c).map byteV := by
  rw [bv c ((c : Int) % 256) (by omega), bv (c / 256) ((c : Int) / 256 % 256) (by omega), bv (c / 65536) ((c : Int) / 65536 % 256) (by omega), bv (c / 16777216) ((c : Int) / 16777216) (by omega)]
  rfl
theorem edcbytes_any (c : Nat) (w : World) (hc : c < 4294967296) : Calls Try.prog 55 #[.int .u32 c] w fun e w' => e = .returned (.string ⟨(edcBs c).toArray⟩) ∧ Below w.heap.size w w' := by
  have hcv := lit_string w (edcBs c) _ 4 rfl (edcBs_cells c hc) (by decide)
  go_enter Try.func55, Try.ntmps55
  go_wp2
  go_ret
  exact ⟨rfl, (Below.refl _ _).alloc (Nat.le_refl _) _⟩
theorem redcbytes_any (c : Nat) (w : World) (hc : c < 4294967296) : Calls Try.prog 59 #[.int .u32 c] w fun e w' => e = .returned (.string ⟨(edcBs c).toArray⟩) ∧ Below w.heap.size w w' := by
  have hcv := lit_string w (edcBs c) _ 4 rfl (edcBs_cells c hc) (by decide)
  go_enter Try.func59, Try.ntmps59
  go_wp2
  go_ret
  exact ⟨rfl, (Below.refl _ _).alloc (Nat.le_refl _) _⟩

theorem edcS_append (a b : ByteArray) : edcS (a ++ b) = edcL (edcS a) b.data.toList := by
  unfold edcS
  rw [ByteArray.data_append, Array.toList_append, edcL_append]
theorem edcS_lt (s : ByteArray) : edcS s < 4294967296 := edcL_lt _ (by omega)
end Go.Proofs.Ytdjpnabkmanboaa
