/-
  The walk of the law ChecksumCloses.
-/
import Derived.Test.YtcbkcdhhigobpaaBurst
import Derived.Test.YtcbkcdhhigobpaaLaw2
import Derived.Test.YtcbkcdhhigobpaaShelf
namespace Go.Proofs.Ytcbkcdhhigobpaa
open Go.RowKit
set_option linter.unusedVariables false

theorem eB_own (c : Nat) : eB c (c % 256) = c / 256 := by rw [eB_table, Nat.xor_self, eN_zero, Nat.xor_zero]
theorem cB_own {c : Nat} (h : c < 65536) : cB c (c / 256) = c % 256 * 256 := by rw [cB_table h (by omega), Nat.xor_self, Nat.zero_mul, cN_zero, Nat.xor_zero]
theorem ofNat_nat (n : Nat) : (UInt8.ofNat n).toNat = n % 256 := by simp
theorem edc_closes (c : Nat) (h : c < 4294967296) : edcL c (edcBs c) = 0 := by
  show eB (eB (eB (eB c (UInt8.ofNat c).toNat) (UInt8.ofNat (c / 256)).toNat) (UInt8.ofNat (c / 65536)).toNat) (UInt8.ofNat (c / 16777216)).toNat = 0
  rw [ofNat_nat, ofNat_nat, ofNat_nat, ofNat_nat, eB_own, eB_own, show c / 65536 % 256 = c / 256 / 256 % 256 by omega, eB_own, show c / 16777216 % 256 = c / 256 / 256 / 256 % 256 by omega, eB_own]
  omega
theorem crc_closes (c : Nat) (h : c < 65536) : crcL c (crcBs c) = 0 := by
  show cB (cB c (UInt8.ofNat (c / 256)).toNat) (UInt8.ofNat c).toNat = 0
  rw [ofNat_nat, ofNat_nat, show c / 256 % 256 = c / 256 by omega, cB_own h]
  have := cB_own (c := c % 256 * 256) (by omega)
  rw [show c % 256 * 256 / 256 = c % 256 by omega, show c % 256 * 256 % 256 * 256 = 0 by omega] at this
  exact this
theorem repeat_zeros (n : Nat) : Lib.repeatL [0] n = List.replicate n 0 := by
  induction n with
  | zero => rfl
  | succ n ih => rw [Lib.repeatL, ih]; rfl
theorem edc_front (n : Nat) (l : List UInt8) : edcL 0 (Lib.repeatL [0] n ++ l) = edcL 0 l := by rw [edcL_append, repeat_zeros, edcL_zeros, eN_zero]
theorem crc_front (n : Nat) (l : List UInt8) : crcL 0 (Lib.repeatL [0] n ++ l) = crcL 0 l := by rw [crcL_append, repeat_zeros, crcL_zeros, cN_zero]

set_option maxHeartbeats 1000000 in
theorem closes_ok (s : ByteArray) (n : Nat) (w : World) (hs : s.size ≤ 300) (hn : n < 256) :
    Calls Try.prog 9 #[.string s, .int .u8 (n : Int)] w fun e w' => e = .returned (.bool true) ∧ Below w.heap.size w w' := by
  obtain ⟨z, hz⟩ : ∃ z : ByteArray, z = ⟨(Lib.repeatL [0] n).toArray⟩ := ⟨_, rfl⟩
  obtain ⟨x, hx⟩ : ∃ x : ByteArray, x = ⟨(edcBs (edcS s)).toArray⟩ := ⟨_, rfl⟩
  obtain ⟨y, hy⟩ : ∃ y : ByteArray, y = ⟨(crcBs (crcS s)).toArray⟩ := ⟨_, rfl⟩
  have hzs : z.size ≤ 255 := by
    have := Lib.repeatL_length [0] n
    have h2 : z.data.toList.length = n * 1 := by rw [hz]; exact this
    simp at h2
    omega
  have hxs : x.size = 4 := by rw [hx]; rfl
  have hys : y.size = 2 := by rw [hy]; rfl
  have C0 : Hid (∀ w, Calls Try.prog 29 #[.string ⟨#[0]⟩, .int .i64 (n : Int)] w fun e w' => e = .returned (.string z) ∧ Below w.heap.size w w') := by
    rw [hz]
    exact fun w => Try.strings_Repeat ⟨#[0]⟩ n w (by omega) (by show 1 * n ≤ _; omega)
  have C1 := Lib.hid (fun w => edcbytes_any (edcS s) w (edcS_lt s))
  have C2 := Lib.hid (fun w => crcbytes_any (crcS s) w (crcS_lt s))
  rw [← hx] at C1
  rw [← hy] at C2
  have d1 : ∀ w, _ := fun w => edc_any (s ++ x) w (by simp; omega)
  have d2 : ∀ w, _ := fun w => crc_any (s ++ y) w (by simp; omega)
  have d3 : ∀ w, _ := fun w => edc_any (z ++ s) w (by simp; omega)
  have d4 : ∀ w, _ := fun w => crc_any (z ++ s) w (by simp; omega)
  rw [edcS_append, show x.data.toList = edcBs (edcS s) by rw [hx], edc_closes _ (edcS_lt s)] at d1
  rw [crcS_append, show y.data.toList = crcBs (crcS s) by rw [hy], crc_closes _ (crcS_lt s)] at d2
  rw [show edcS (z ++ s) = edcS s by unfold edcS; rw [ByteArray.data_append, Array.toList_append, hz]; exact edc_front n _] at d3
  rw [show crcS (z ++ s) = crcS s by unfold crcS; rw [ByteArray.data_append, Array.toList_append, hz]; exact crc_front n _] at d4
  have D1 := Lib.hid d1
  have D2 := Lib.hid d2
  have D3 := Lib.hid d3
  have D4 := Lib.hid d4
  have hxs' : x.size ≤ 4 := by omega
  have hys' : y.size ≤ 2 := by omega
  have h1 : ¬ (300 : Int) < (s.size : Int) := by omega
  clear d1 d2 d3 d4 hz hx hy hxs hys
  go_enter Try.func9, Try.ntmps9
  go_wp2_with fail
  refine (awake_any _).mono ?_
  rintro e w1 ⟨rfl, hb1⟩
  go_wp2_with fail
  refine (C0.out _).mono ?_
  rintro e w2 ⟨rfl, hb2⟩
  go_wp2_with fail
  refine (edc_any _ _ (by omega)).mono ?_
  rintro e w3 ⟨rfl, hb3⟩
  go_wp2_with fail
  refine (C1.out _).mono ?_
  rintro e w4 ⟨rfl, hb4⟩
  go_wp2_with fail
  refine (D1.out _).mono ?_
  rintro e w5 ⟨rfl, hb5⟩
  go_wp2_with fail
  refine (crc_any _ _ (by omega)).mono ?_
  rintro e w6 ⟨rfl, hb6⟩
  go_wp2_with fail
  refine (C2.out _).mono ?_
  rintro e w7 ⟨rfl, hb7⟩
  go_wp2_with fail
  refine (D2.out _).mono ?_
  rintro e w8 ⟨rfl, hb8⟩
  go_wp2_with fail
  refine (D3.out _).mono ?_
  rintro e w9 ⟨rfl, hb9⟩
  go_wp2_with fail
  refine (edc_any _ _ (by omega)).mono ?_
  rintro e w10 ⟨rfl, hb10⟩
  go_wp2_with fail
  refine (D4.out _).mono ?_
  rintro e w11 ⟨rfl, hb11⟩
  go_wp2_with fail
  refine (crc_any _ _ (by omega)).mono ?_
  rintro e w12 ⟨rfl, hb12⟩
  go_wp2_with fail
  go_ret
  have b2 := hb1.trans (hb2.mono hb1.size)
  have b3 := b2.trans (hb3.mono b2.size)
  have b4 := b3.trans (hb4.mono b3.size)
  have b5 := b4.trans (hb5.mono b4.size)
  have b6 := b5.trans (hb6.mono b5.size)
  have b7 := b6.trans (hb7.mono b6.size)
  have b8 := b7.trans (hb8.mono b7.size)
  have b9 := b8.trans (hb9.mono b8.size)
  have b10 := b9.trans (hb10.mono b9.size)
  have b11 := b10.trans (hb11.mono b10.size)
  exact ⟨rfl, b11.trans (hb12.mono b11.size)⟩

theorem closes_walk (s : ByteArray) (n : Int) (w : World) (w0 : s.size ≤ maxLen) (w1 : (Lit.int .u8 n).wf = true) :
    Calls Try.prog 9 #[.string s, .int .u8 n] w fun e w' => e = .returned (.bool true) ∧ Below w.heap.size w w' := by
  unfold maxLen at w0
  obtain ⟨n0, n1⟩ := wf_u8 w1
  obtain ⟨n, rfl⟩ := Int.eq_ofNat_of_zero_le n0
  by_cases h : s.size ≤ 300
  · exact closes_ok s n w h (by omega)
  · have h1 : (300 : Int) < (s.size : Int) := by omega
    go_enter Try.func9, Try.ntmps9
    go_wp2_with (first | (go_at_call 10; refine (awake_any _).mono ?_; rintro e w1 ⟨rfl, hb1⟩) | fail)
    go_ret
    exact ⟨rfl, hb1⟩
end Go.Proofs.Ytcbkcdhhigobpaa
