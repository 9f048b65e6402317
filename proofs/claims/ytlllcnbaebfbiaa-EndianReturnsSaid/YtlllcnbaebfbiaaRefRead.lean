/-
  The walks of the reference's part, value, ReadLittle, ReadBig.
-/
import Derived.Test.YtlllcnbaebfbiaaReads
namespace Go.Proofs.Ytlllcnbaebfbiaa
open Go.RowKit
set_option linter.unusedVariables false

theorem extract_part (s : ByteArray) (a z : Nat) : (s.extract a (a + z)).data.toList = partB s a z := by
  simp [partB, ByteArray.data_extract, List.take_drop]

set_option maxHeartbeats 400000 in
theorem part_ok (s : ByteArray) (a z : Nat) (w : World) (hs : s.size ≤ 140737488351232) (h : a + z ≤ s.size) :
    Calls Try.prog 39 #[.string s, .int .i64 a, .int .i64 z] w fun e w' => e = .returned (.tuple #[.string (s.extract a (a + z)), .bool true]) ∧ w = w' := by
  have h1 : (a : Int) ≤ (s.size : Int) := by omega
  have h2 : (z : Int) ≤ (s.size : Int) - (a : Int) := by omega
  go_enter Try.func39, Try.ntmps39
  go_wp2
  go_ret2
  exact ⟨rfl, rfl⟩
set_option maxHeartbeats 400000 in
theorem part_no (s : ByteArray) (a z : Int) (w : World) (hs : s.size ≤ 140737488351232) (h0 : 0 ≤ z) (hz : z ≤ 100) (h : insideB s.size a z = false) :
    Calls Try.prog 39 #[.string s, .int .i64 a, .int .i64 z] w fun e w' => e = .returned (.tuple #[.string ⟨#[]⟩, .bool false]) ∧ w = w' := by
  have h' : ¬ (0 ≤ a ∧ a ≤ (s.size : Int) - z) := of_decide_eq_false h
  clear h
  by_cases h1 : a < 0
  · clear h'
    go_enter Try.func39, Try.ntmps39
    go_wp2
    go_ret2
    exact ⟨rfl, rfl⟩
  · by_cases h2 : (s.size : Int) < a
    · clear h'
      go_enter Try.func39, Try.ntmps39
      go_wp2
      go_ret2
      exact ⟨rfl, rfl⟩
    · have h3 : (s.size : Int) - a < z := by omega
      clear h'
      go_enter Try.func39, Try.ntmps39
      go_wp2
      go_ret2
      exact ⟨rfl, rfl⟩

theorem valN_cons_drop (l : List UInt8) (k : Nat) (h : k < l.length) : valN (l.drop k) = l[k].toNat + 256 * valN (l.drop (k + 1)) := by
  rw [List.drop_eq_getElem_cons h, valN]
theorem valN_append (l r : List UInt8) : valN (l ++ r) = valN l + 256 ^ l.length * valN r := by
  induction l with
  | nil => simp [valN]
  | cons c t ih => simp only [List.cons_append, valN, ih, List.length_cons, Nat.pow_succ]; rw [Nat.mul_add]; simp only [Nat.mul_comm, Nat.mul_assoc]; omega
theorem valN_drop_le (l : List UInt8) (k : Nat) : valN (l.drop k) ≤ valN l := by
  have := valN_append (l.take k) (l.drop k)
  rw [List.take_append_drop] at this
  have hp : 0 < 256 ^ (l.take k).length := Nat.pow_pos (by omega)
  have := Nat.le_mul_of_pos_left (valN (l.drop k)) hp
  omega

/-- 8 bytes make a number from 2^63 on just if the last one is greater than 127. -/
theorem valN_top (s : ByteArray) (h : s.size = 8) : (9223372036854775808 ≤ valN s.data.toList) ↔ 127 < s[7].toNat := by
  have hl : s.data.toList.length = 8 := by simpa using h
  have e := valN_append (s.data.toList.take 7) (s.data.toList.drop 7)
  rw [List.take_append_drop] at e
  have h7 : s.data.toList.drop 7 = [s[7]] := by
    rw [List.drop_eq_getElem_cons (by omega), List.drop_of_length_le (by omega)]
    rfl
  have hlt := valN_lt (s.data.toList.take 7)
  have hlen : (s.data.toList.take 7).length = 7 := by simp; omega
  rw [hlen] at hlt e
  rw [h7] at e
  have e2 : valN [s[7]] = s[7].toNat := by simp [valN]
  rw [e2] at e
  have h1 : (256 : Nat) ^ 7 = 72057594037927936 := by decide
  rw [h1] at e hlt
  omega
theorem valN_small (s : ByteArray) (h : s.size ≤ 7) : valN s.data.toList < 72057594037927936 := by
  have hlt := valN_lt s.data.toList
  have hl : s.data.toList.length ≤ 7 := by simpa using h
  have h1 : (256 : Nat) ^ 7 = 72057594037927936 := by decide
  have := Nat.pow_le_pow_right (show 0 < 256 by omega) hl
  omega

set_option maxHeartbeats 400000 in
theorem value_big (s : ByteArray) (w : World) (hs : s.size = 8) (h : 9223372036854775808 ≤ valN s.data.toList) :
    Calls Try.prog 40 #[.string s] w fun e w' => e = .returned (.tuple #[.int .i64 0, .int .i64 7]) ∧ w = w' := by
  have h7 := (valN_top s hs).1 h
  have h8 : ((s.size : Int) == 8) = true := by simp; omega
  have h8' : 7 < s.size := by omega
  have h9 : (127 : Int) < (s[7].toNat : Int) := by omega
  clear h
  go_enter Try.func40, Try.ntmps40
  go_wp2
  go_ret2
  exact ⟨rfl, rfl⟩

theorem value_loop (s : ByteArray) (w : World) (hs : s.size ≤ 8) (h : valN s.data.toList < 9223372036854775808) :
    Calls Try.prog 40 #[.string s] w fun e w' => e = .returned (.tuple #[.int .i64 (valN s.data.toList : Nat), .int .i64 0]) ∧ w = w' := by
  have hsz : s.data.toList.length = s.size := by simp
  have HZ := Lib.hid hsz
  have HD := Lib.hid (fun k => Nat.lt_of_le_of_lt (valN_drop_le s.data.toList k) h)
  clear hsz
  have h8 : ((s.size : Int) == 8) = false ∨ (∃ h8 : 7 < s.size, ((s.size : Int) == 8) = true ∧ (s[7].toNat : Int) ≤ 127) := by
    by_cases h8 : s.size = 8
    · refine .inr ⟨by omega, by simp; omega, ?_⟩
      have h9 : ¬ 127 < s[7].toNat := fun hh => by have := (valN_top s h8).2 hh; omega
      omega
    · exact .inl (by simp; omega)
  clear h
  rcases h8 with h8 | ⟨h7, h8, h9⟩
  all_goals
    go_enter Try.func40, Try.ntmps40
    go_wp2
    go_loop [4, 5] (fun n i => ∃ k : Nat, k ≤ s.size ∧ i = .int .i64 ((k : Int) - 1) ∧ n = .int .i64 (valN (s.data.toList.drop k) : Nat)) (fun _ i => (intOf i + 1).toNat)
    case atStart => exact ⟨s.size, by omega, rfl, by rw [List.drop_of_length_le (Nat.le_of_eq HZ.out)]; rfl⟩
    case round =>
      obtain ⟨k, hk, rfl, rfl⟩ := hrel
      by_cases hlt : 0 < k
      · obtain ⟨j, rfl⟩ : ∃ j, k = j + 1 := ⟨k - 1, by omega⟩
        have hj : j < s.size := by omega
        have hs1 := valN_cons_drop s.data.toList j (by rw [HZ.out]; exact hj)
        have hlt1 := HD.out j
        have HS := Lib.hid hs1
        have hb : (256 : Int) * (valN (s.data.toList.drop (j + 1)) : Nat) + (s[j].toNat : Int) < 9223372036854775808 := by
          have : s.data.toList[j]'(by rw [HZ.out]; exact hj) = s[j] := rfl
          rw [this] at hs1
          omega
        have ej : (((j + 1 : Nat) : Int) - 1) = (j : Int) := by omega
        rw [ej]
        clear ej hs1 hlt1
        generalize valN (s.data.toList.drop (j + 1)) = N at *
        have hb2 : (256 : Int) * (N : Int) < 9223372036854775808 := by omega
        go_wp2
        go_round
        case rel => exact ⟨j, by omega, rfl, by rw [HS.out]; exact congrArg _ (by show _ = (((s[j].toNat + 256 * N : Nat)) : Int); omega)⟩
        case measure => simp [intOf]
      · obtain rfl : k = 0 := by omega
        rw [List.drop_zero]
        go_wp2
        go_ret2
        exact ⟨rfl, rfl⟩

theorem value_any (s : ByteArray) (w : World) (hs : s.size ≤ 8) :
    Calls Try.prog 40 #[.string s] w fun e w' => e = .returned (.tuple #[.int .i64 (rdV (valN s.data.toList)), .int .i64 (rdE (valN s.data.toList))]) ∧ w = w' := by
  by_cases h : valN s.data.toList < 9223372036854775808
  · rw [rdV, rdE, if_pos h, if_pos h]
    exact value_loop s w hs h
  · rw [rdV, rdE, if_neg h, if_neg h]
    refine value_big s w ?_ (by omega)
    have := valN_small s
    omega

set_option maxHeartbeats 400000 in
theorem rreadlittle_any (s : ByteArray) (a size : Int) (w : World) (hs : s.size ≤ 140737488351232) :
    Calls Try.prog 24 #[.string s, .int .i64 a, .int .i64 size] w fun e w' => e = .returned (.tuple #[.int .i64 (rV s.size a size (nLe s a size)), .int .i64 (rE s.size a size (nLe s a size))]) ∧ Below w.heap.size w w' := by
  by_cases h : sizeBad size
  · have HV := Lib.hid (rV_bad (len := s.size) (a := a) (N := nLe s a size) h)
    have HE := Lib.hid (rE_bad (len := s.size) (a := a) (N := nLe s a size) h)
    rcases h with h | h
    · go_enter Try.func24, Try.ntmps24
      go_wp2_with fail
      go_ret2
      exact ⟨by rw [HV.out, HE.out]; rfl, Below.refl _ _⟩
    · go_enter Try.func24, Try.ntmps24
      go_wp2_with fail
      go_ret2
      exact ⟨by rw [HV.out, HE.out]; rfl, Below.refl _ _⟩
  · have h1 : 1 ≤ size := by unfold sizeBad at h; omega
    have h2 : size ≤ 8 := by unfold sizeBad at h; omega
    by_cases h' : insideB s.size a size = true
    · have h3 := of_decide_eq_true h'
      have HV := Lib.hid (rV_in (N := nLe s a size) h h')
      have HE := Lib.hid (rE_in (N := nLe s a size) h h')
      obtain ⟨z, rfl⟩ : ∃ z : Nat, size = z := ⟨size.toNat, by omega⟩
      obtain ⟨b, rfl⟩ : ∃ b : Nat, a = b := ⟨a.toNat, by omega⟩
      have hv := fun w => value_any (s.extract b (b + z)) w (by simp; omega)
      rw [show valN (s.extract b (b + z)).data.toList = nLe s b z by rw [extract_part]; rfl] at hv
      have HC := Lib.hid hv
      have hsz : b + z ≤ s.size := by omega
      clear hv h h' h3
      go_enter Try.func24, Try.ntmps24
      go_wp2_with (first
        | (go_at_call 39; refine (part_ok _ _ _ _ hs hsz).mono ?_; rintro e w' ⟨rfl, rfl⟩)
        | (go_at_call 40; refine (HC.out _).mono ?_; rintro e w' ⟨rfl, rfl⟩)
        | fail)
      go_ret2
      exact ⟨by rw [HV.out, HE.out]; rfl, Below.refl _ _⟩
    · have h' : insideB s.size a size = false := by simpa using h'
      have HV := Lib.hid (rV_out (N := nLe s a size) h h')
      have HE := Lib.hid (rE_out (N := nLe s a size) h h')
      have HI := Lib.hid h'
      clear h h'
      go_enter Try.func24, Try.ntmps24
      go_wp2_with (first
        | (go_at_call 39; refine (part_no _ _ _ _ hs (by omega) (by omega) HI.out).mono ?_; rintro e w' ⟨rfl, rfl⟩)
        | fail)
      go_ret2
      exact ⟨by rw [HV.out, HE.out]; rfl, Below.refl _ _⟩

set_option maxHeartbeats 400000 in
theorem rreadbig_any (s : ByteArray) (a size : Int) (w : World) (hs : s.size ≤ 140737488351232) :
    Calls Try.prog 25 #[.string s, .int .i64 a, .int .i64 size] w fun e w' => e = .returned (.tuple #[.int .i64 (rV s.size a size (nBe s a size)), .int .i64 (rE s.size a size (nBe s a size))]) ∧ Below w.heap.size w w' := by
  by_cases h : sizeBad size
  · have HV := Lib.hid (rV_bad (len := s.size) (a := a) (N := nBe s a size) h)
    have HE := Lib.hid (rE_bad (len := s.size) (a := a) (N := nBe s a size) h)
    rcases h with h | h
    · go_enter Try.func25, Try.ntmps25
      go_wp2_with fail
      go_ret2
      exact ⟨by rw [HV.out, HE.out]; rfl, Below.refl _ _⟩
    · go_enter Try.func25, Try.ntmps25
      go_wp2_with fail
      go_ret2
      exact ⟨by rw [HV.out, HE.out]; rfl, Below.refl _ _⟩
  · have h1 : 1 ≤ size := by unfold sizeBad at h; omega
    have h2 : size ≤ 8 := by unfold sizeBad at h; omega
    by_cases h' : insideB s.size a size = true
    · have h3 := of_decide_eq_true h'
      have HV := Lib.hid (rV_in (N := nBe s a size) h h')
      have HE := Lib.hid (rE_in (N := nBe s a size) h h')
      obtain ⟨z, rfl⟩ : ∃ z : Nat, size = z := ⟨size.toNat, by omega⟩
      obtain ⟨b, rfl⟩ : ∃ b : Nat, a = b := ⟨a.toNat, by omega⟩
      have hsz : b + z ≤ s.size := by omega
      have hr := fun w => reverse_any (s.extract b (b + z)) w (by simp; omega)
      rw [extract_part] at hr
      have hv := fun w => value_any ⟨(partB s b z).reverse.toArray⟩ w (by rw [size_mk, List.length_reverse, partB_length hsz]; omega)
      rw [show valN (⟨(partB s b z).reverse.toArray⟩ : ByteArray).data.toList = nBe s b z from rfl] at hv
      have HR := Lib.hid hr
      have HC := Lib.hid hv
      clear hv hr h h' h3
      go_enter Try.func25, Try.ntmps25
      go_wp2_with (first
        | (go_at_call 39; refine (part_ok _ _ _ _ hs hsz).mono ?_; rintro e w' ⟨rfl, rfl⟩)
        | (go_at_call 34; refine (HR.out _).mono ?_; rintro e w1 ⟨rfl, hb1⟩)
        | (go_at_call 40; refine (HC.out _).mono ?_; rintro e w' ⟨rfl, rfl⟩)
        | fail)
      go_ret2
      exact ⟨by rw [HV.out, HE.out]; rfl, hb1⟩
    · have h' : insideB s.size a size = false := by simpa using h'
      have HV := Lib.hid (rV_out (N := nBe s a size) h h')
      have HE := Lib.hid (rE_out (N := nBe s a size) h h')
      have HI := Lib.hid h'
      clear h h'
      go_enter Try.func25, Try.ntmps25
      go_wp2_with (first
        | (go_at_call 39; refine (part_no _ _ _ _ hs (by omega) (by omega) HI.out).mono ?_; rintro e w' ⟨rfl, rfl⟩)
        | fail)
      go_ret2
      exact ⟨by rw [HV.out, HE.out]; rfl, Below.refl _ _⟩
end Go.Proofs.Ytlllcnbaebfbiaa
