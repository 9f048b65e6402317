/-
  The walk of the law ChecksumLinear.
-/
import Derived.Test.YtcbkcdhhigobpaaXor
namespace Go.Proofs.Ytcbkcdhhigobpaa
open Go.RowKit
set_option linter.unusedVariables false

theorem xor_swap (a b c d : Nat) : (a ^^^ b) ^^^ (c ^^^ d) = (a ^^^ c) ^^^ (b ^^^ d) := by
  rw [Nat.xor_assoc, Nat.xor_assoc, ← Nat.xor_assoc b c d, Nat.xor_comm b c, Nat.xor_assoc c b d]
theorem edcL_xor (l r : List UInt8) (h : l.length = r.length) (c d : Nat) : edcL (c ^^^ d) (xorL l r) = edcL c l ^^^ edcL d r := by
  induction l generalizing r c d with
  | nil => cases r with
    | nil => rfl
    | cons => simp at h
  | cons x t ih => cases r with
    | nil => simp at h
    | cons y u =>
      show edcL (eB (c ^^^ d) (x ^^^ y).toNat) (xorL t u) = edcL (eB c x.toNat) t ^^^ edcL (eB d y.toNat) u
      rw [← ih u (by simpa using h)]
      congr 1
      unfold eB
      rw [UInt8.toNat_xor, xor_swap, eN_xor]
theorem crcL_xor (l r : List UInt8) (h : l.length = r.length) (c d : Nat) (hc : c < 65536) (hd : d < 65536) : crcL (c ^^^ d) (xorL l r) = crcL c l ^^^ crcL d r := by
  induction l generalizing r c d with
  | nil => cases r with
    | nil => rfl
    | cons => simp at h
  | cons x t ih => cases r with
    | nil => simp at h
    | cons y u =>
      have hx := x.toNat_lt
      have hy := y.toNat_lt
      show crcL (cB (c ^^^ d) (x ^^^ y).toNat) (xorL t u) = crcL (cB c x.toNat) t ^^^ crcL (cB d y.toNat) u
      rw [← ih u (by simpa using h) _ _ (cB_lt hc hx) (cB_lt hd hy)]
      congr 1
      unfold cB
      have hm : (x.toNat ^^^ y.toNat) * 256 = x.toNat * 256 ^^^ y.toNat * 256 := xor_mul 8 _ _
      rw [UInt8.toNat_xor, hm, xor_swap, cN_xor 8 (xor_lt (k := 16) hc (by omega)) (xor_lt (k := 16) hd (by omega))]

set_option maxHeartbeats 400000 in
theorem linear_no (a b : ByteArray) (w : World) (ha : a.size ≤ 9223372036854775807) (hb : b.size ≤ 9223372036854775807) (h : 300 < a.size ∨ a.size ≠ b.size) :
    Calls Try.prog 5 #[.string a, .string b] w fun e w' => e = .returned (.bool true) ∧ Below w.heap.size w w' := by
  by_cases h1 : (300 : Int) < (a.size : Int)
  · clear h
    go_enter Try.func5, Try.ntmps5
    go_wp2_with (first | (go_at_call 10; refine (awake_any _).mono ?_; rintro e w1 ⟨rfl, hb1⟩) | fail)
    go_ret
    exact ⟨rfl, hb1⟩
  · have h2 : ((a.size : Int) != (b.size : Int)) = true := by simp; omega
    clear h
    go_enter Try.func5, Try.ntmps5
    go_wp2_with (first | (go_at_call 10; refine (awake_any _).mono ?_; rintro e w1 ⟨rfl, hb1⟩) | fail)
    go_ret
    exact ⟨rfl, hb1⟩

set_option maxHeartbeats 1000000 in
theorem linear_ok (a b : ByteArray) (w : World) (ha : a.size ≤ 300) (hab : b.size = a.size) :
    Calls Try.prog 5 #[.string a, .string b] w fun e w' => e = .returned (.bool true) ∧ Below w.heap.size w w' := by
  have hl : a.data.toList.length = b.data.toList.length := by simp; omega
  have c0 : ∀ w, _ := fun w => xor_any a b w ha hab
  obtain ⟨x, hx⟩ : ∃ x : ByteArray, x = ⟨(xorL a.data.toList b.data.toList).toArray⟩ := ⟨_, rfl⟩
  rw [← hx] at c0
  have hxs : x.size ≤ 300 := by
    have : x.data.toList.length = min a.data.toList.length b.data.toList.length := by rw [hx]; simp [xorL]
    simp at this
    omega
  have c1 : ∀ w, _ := fun w => edc_any x w (by omega)
  have c2 : ∀ w, _ := fun w => crc_any x w (by omega)
  have e1 : edcS x = edcS a ^^^ edcS b := by
    rw [hx]
    exact edcL_xor a.data.toList b.data.toList hl 0 0
  have e2 : crcS x = crcS a ^^^ crcS b := by
    rw [hx]
    exact crcL_xor a.data.toList b.data.toList hl 0 0 (by omega) (by omega)
  rw [e1] at c1
  rw [e2] at c2
  have x1 := u32_xor_nat (edcS a) (edcS b) (edcL_lt _ (by omega)) (edcL_lt _ (by omega))
  have x2 := u16_xor_nat (crcS a) (crcS b) (crcL_lt _ (by omega)) (crcL_lt _ (by omega))
  have C0 := Lib.hid c0
  have C1 := Lib.hid c1
  have C2 := Lib.hid c2
  have h2 : ((a.size : Int) != (b.size : Int)) = false := by simp; omega
  have hb : b.size ≤ 300 := by omega
  clear c0 c1 c2 e1 e2 hx hl hab
  go_enter Try.func5, Try.ntmps5
  go_wp2_with fail
  refine (awake_any _).mono ?_
  rintro e w1 ⟨rfl, hb1⟩
  go_wp2_with fail
  refine (C0.out _).mono ?_
  rintro e w2 ⟨rfl, hb2⟩
  go_wp2_with fail
  refine (C1.out _).mono ?_
  rintro e w3 ⟨rfl, hb3⟩
  go_wp2_with fail
  refine (edc_any _ _ (by omega)).mono ?_
  rintro e w4 ⟨rfl, hb4⟩
  go_wp2_with fail
  refine (edc_any _ _ (by omega)).mono ?_
  rintro e w5 ⟨rfl, hb5⟩
  go_wp2_with fail
  refine (C2.out _).mono ?_
  rintro e w6 ⟨rfl, hb6⟩
  go_wp2_with fail
  refine (crc_any _ _ (by omega)).mono ?_
  rintro e w7 ⟨rfl, hb7⟩
  go_wp2_with fail
  refine (crc_any _ _ (by omega)).mono ?_
  rintro e w8 ⟨rfl, hb8⟩
  go_wp2_with fail
  go_ret
  have b2 := hb1.trans (hb2.mono hb1.size)
  have b3 := b2.trans (hb3.mono b2.size)
  have b4 := b3.trans (hb4.mono b3.size)
  have b5 := b4.trans (hb5.mono b4.size)
  have b6 := b5.trans (hb6.mono b5.size)
  have b7 := b6.trans (hb7.mono b6.size)
  exact ⟨rfl, b7.trans (hb8.mono b7.size)⟩

theorem linear_walk (a b : ByteArray) (w : World) (w0 : a.size ≤ maxLen) (w1 : b.size ≤ maxLen) :
    Calls Try.prog 5 #[.string a, .string b] w fun e w' => e = .returned (.bool true) ∧ Below w.heap.size w w' := by
  unfold maxLen at w0 w1
  by_cases h : 300 < a.size ∨ a.size ≠ b.size
  · exact linear_no a b w (by omega) (by omega) h
  · exact linear_ok a b w (by omega) (by omega)
end Go.Proofs.Ytcbkcdhhigobpaa
