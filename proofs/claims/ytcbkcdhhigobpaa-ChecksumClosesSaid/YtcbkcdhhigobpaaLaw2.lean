/-
  The walk of the law ChecksumExtends.
-/
import Derived.Test.YtcbkcdhhigobpaaBytes
namespace Go.Proofs.Ytcbkcdhhigobpaa
open Go.RowKit
set_option linter.unusedVariables false

theorem edcS_append (a b : ByteArray) : edcS (a ++ b) = edcL (edcS a) b.data.toList := by
  unfold edcS
  rw [ByteArray.data_append, Array.toList_append, edcL_append]
theorem crcS_append (a b : ByteArray) : crcS (a ++ b) = crcL (crcS a) b.data.toList := by
  unfold crcS
  rw [ByteArray.data_append, Array.toList_append, crcL_append]
theorem edcS_lt (s : ByteArray) : edcS s < 4294967296 := edcL_lt _ (by omega)
theorem crcS_lt (s : ByteArray) : crcS s < 65536 := crcL_lt _ (by omega)
theorem sumL_from (l : List UInt8) (s : Nat) (hs : s < 256) : l.foldl (fun s b => (s + b.toNat) % 256) s = (s + sumL l) % 256 := by
  unfold sumL
  induction l generalizing s with
  | nil => simp; omega
  | cons b t ih =>
    simp only [List.foldl_cons]
    rw [ih ((s + b.toNat) % 256) (by omega), ih ((0 + b.toNat) % 256) (by omega)]
    omega
theorem sumS_append (a b : ByteArray) : sumS (a ++ b) = (sumS a + sumS b) % 256 := by
  unfold sumS
  rw [ByteArray.data_append, Array.toList_append]
  have := sumL_from b.data.toList (sumL a.data.toList) (sumL_lt _)
  rw [← this]
  simp [sumL]

set_option maxHeartbeats 400000 in
theorem extends_big (x y : Nat) (a b : ByteArray) (w : World) (ha : a.size ≤ 9223372036854775807) (hb : b.size ≤ 9223372036854775807) (h : 300 < a.size ∨ 300 < b.size) :
    Calls Try.prog 4 #[.int .u32 x, .int .u16 y, .string a, .string b] w fun e w' => e = .returned (.bool true) ∧ Below w.heap.size w w' := by
  by_cases h1 : (300 : Int) < (a.size : Int)
  · clear h
    go_enter Try.func4, Try.ntmps4
    go_wp2_with (first | (go_at_call 10; refine (awake_any _).mono ?_; rintro e w1 ⟨rfl, hb1⟩) | fail)
    go_ret
    exact ⟨rfl, hb1⟩
  · have h2 : (300 : Int) < (b.size : Int) := by omega
    clear h
    go_enter Try.func4, Try.ntmps4
    go_wp2_with (first | (go_at_call 10; refine (awake_any _).mono ?_; rintro e w1 ⟨rfl, hb1⟩) | fail)
    go_ret
    exact ⟨rfl, hb1⟩

set_option maxHeartbeats 1000000 in
theorem extends_ok (x y : Nat) (a b : ByteArray) (w : World) (hx : x < 4294967296) (hy : y < 65536) (ha : a.size ≤ 300) (hb : b.size ≤ 300) :
    Calls Try.prog 4 #[.int .u32 x, .int .u16 y, .string a, .string b] w fun e w' => e = .returned (.bool true) ∧ Below w.heap.size w w' := by
  have c1 : ∀ w, _ := fun w => edc_any (a ++ b) w (by simp; omega)
  have c2 : ∀ w, _ := fun w => crc_any (a ++ b) w (by simp; omega)
  have c3 : ∀ w, _ := fun w => sum8_any (a ++ b) w (by simp; omega)
  have s1 := sumL_lt a.data.toList
  have s2 := sumL_lt b.data.toList
  rw [edcS_append] at c1
  rw [crcS_append] at c2
  rw [sumS_append] at c3
  have hsum : ((((sumS a + sumS b) % 256 : Nat) : Int) == ((sumS a : Int) + (sumS b : Int)) % 256) = true := by simp
  have hsum' : ((((sumS a + sumS b) % 256 : Nat) : Int) == IntKind.u8.wrap ((sumS a : Int) + (sumS b : Int))) = true := by rw [IntKind.wrap_u8]; simp
  obtain ⟨q, hq⟩ : ∃ q, q = (sumS a + sumS b) % 256 := ⟨_, rfl⟩
  rw [← hq] at c3 hsum hsum'
  have C1 := Lib.hid c1
  have C2 := Lib.hid c2
  have C3 := Lib.hid c3
  have e1 := edcS_lt a
  have e2 := crcS_lt a
  clear c1 c2 c3 hq s1 s2
  go_enter Try.func4, Try.ntmps4
  go_wp2_with fail
  refine (awake_any _).mono ?_
  rintro e w1 ⟨rfl, hb1⟩
  go_wp2_with fail
  refine (extendedc_any _ _ _ hx (by omega)).mono ?_
  rintro e w2 ⟨rfl, hb2⟩
  go_wp2_with fail
  refine (rextendedc_any _ _ _ hx (by omega)).mono ?_
  rintro e w' ⟨rfl, rfl⟩
  go_wp2_with fail
  refine (extendcrc_any _ _ _ hy (by omega)).mono ?_
  rintro e w3 ⟨rfl, hb3⟩
  go_wp2_with fail
  refine (rextendcrc_any _ _ _ hy (by omega)).mono ?_
  rintro e w' ⟨rfl, rfl⟩
  go_wp2_with fail
  refine (C1.out _).mono ?_
  rintro e w4 ⟨rfl, hb4⟩
  go_wp2_with fail
  refine (edc_any _ _ (by omega)).mono ?_
  rintro e w5 ⟨rfl, hb5⟩
  go_wp2_with fail
  refine (extendedc_any _ _ _ e1 (by omega)).mono ?_
  rintro e w6 ⟨rfl, hb6⟩
  go_wp2_with fail
  refine (C2.out _).mono ?_
  rintro e w7 ⟨rfl, hb7⟩
  go_wp2_with fail
  refine (crc_any _ _ (by omega)).mono ?_
  rintro e w8 ⟨rfl, hb8⟩
  go_wp2_with fail
  refine (extendcrc_any _ _ _ e2 (by omega)).mono ?_
  rintro e w9 ⟨rfl, hb9⟩
  go_wp2_with fail
  refine (C3.out _).mono ?_
  rintro e w' ⟨rfl, rfl⟩
  go_wp2_with fail
  refine (sum8_any _ _ (by omega)).mono ?_
  rintro e w' ⟨rfl, rfl⟩
  go_wp2_with fail
  refine (sum8_any _ _ (by omega)).mono ?_
  rintro e w' ⟨rfl, rfl⟩
  go_wp2_with fail
  go_ret
  have b2 := hb1.trans (hb2.mono hb1.size)
  have b3 := b2.trans (hb3.mono b2.size)
  have b4 := b3.trans (hb4.mono b3.size)
  have b5 := b4.trans (hb5.mono b4.size)
  have b6 := b5.trans (hb6.mono b5.size)
  have b7 := b6.trans (hb7.mono b6.size)
  have b8 := b7.trans (hb8.mono b7.size)
  exact ⟨rfl, b8.trans (hb9.mono b8.size)⟩

theorem extends_walk (x y : Int) (a b : ByteArray) (w : World) (w0 : (Lit.int .u32 x).wf = true) (w1 : (Lit.int .u16 y).wf = true) (w2 : a.size ≤ maxLen) (w3 : b.size ≤ maxLen) :
    Calls Try.prog 4 #[.int .u32 x, .int .u16 y, .string a, .string b] w fun e w' => e = .returned (.bool true) ∧ Below w.heap.size w w' := by
  unfold maxLen at w2 w3
  obtain ⟨a0, a1⟩ := Go.Proofs.Ytcbkcdhhigobpaa.wf_u32 w0
  obtain ⟨b0, b1⟩ := Go.Proofs.Ytcbkcdhhigobpaa.wf_u16 w1
  obtain ⟨x, rfl⟩ := Int.eq_ofNat_of_zero_le a0
  obtain ⟨y, rfl⟩ := Int.eq_ofNat_of_zero_le b0
  by_cases h : 300 < a.size ∨ 300 < b.size
  · exact extends_big x y a b w (by omega) (by omega) h
  · exact extends_ok x y a b w (by omega) (by omega) (by omega) (by omega)
end Go.Proofs.Ytcbkcdhhigobpaa
